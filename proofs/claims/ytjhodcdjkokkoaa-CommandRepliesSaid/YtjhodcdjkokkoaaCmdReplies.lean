/- For every two replies command.PutReply returns the document's bytes, command.Same tells whether they are the same, and command.GetReply decodes the bytes again, or tells what is wrong with the reply. -/
import Derived.Test.YtjhodcdjkokkoaaRepMake
import Derived.Test.YtjhodcdjkokkoaaRepAlike
import Derived.Test.YtjhodcdjkokkoaaRepSame
import Derived.Test.YtjhodcdjkokkoaaRepGet
import Derived.Test.YtjhodcdjkokkoaaRepPut
import Derived.Test.YtjhodcdjkokkoaaRepRPut
import Derived.Test.YtjhodcdjkokkoaaFrame
import Derived.Deep.Cut
namespace Go.Proofs.Ytjhodcdjkokkoaa
open Go.ChangeShapes Go.WideShapes Go.ChangeAt Go.RowKit
open Go.ChangeMaps (open_string shut_string)

theorem AnsOK.frm {w w' : World} {x : Rp} {tv mv : Value} (h : AnsOK w x tv mv) (hf : Frm No w w') : AnsOK w' x tv mv :=
  { h with rt := h.rt.frm hf (fun _ _ h => h), rm := h.rm.frm hf (fun _ _ h => h) }

theorem Rep.put_le (r : Rp) (h1 : r.text.length ≤ 2000) (h2 : r.texts.length ≤ 50) (h3 : r.marks.length ≤ 50) (h4 : ∀ s ∈ r.texts, s.length ≤ 500) : (Rep.put r).length ≤ 281474976710656 := by
  have e1 := Oct.enc_le r.k
  have e2 := Oct.enc_le r.line
  have e3 := Oct.enc_le r.col
  have e4 := Oct.enc_le r.count
  have e5 := Oct.text_le r.text
  have e6 := Oct.texts_le r.texts
  have e7 := Oct.texts_le (r.marks.map Mk.put)
  rw [List.length_map] at e7
  have e8 := Oct.enc_le r.texts.length
  have e9 := Oct.enc_le r.marks.length
  unfold Rep.put Rep.enc
  split
  · simp
  · simp only [List.length_append]
    omega

namespace CmdReplies
set_option maxRecDepth 100000 in
set_option maxHeartbeats 8000000 in
theorem walk (x y : Rp) (tx mx ty my : Value) (w : World) (hx : AnsOK w x tx mx) (hy : AnsOK w y ty my) :
    Calls Try.prog 7 #[rpV x tx mx, rpV y ty my] w fun e w' => e = .returned (.bool true) ∧ Frm No w w' := by
  have H1 := hid (fun w1 (hf : Frm No w w1) => replies_any x tx mx w1 (hx.frm hf))
  have H2 := hid (fun w1 (hf : Frm No w w1) => replies_any y ty my w1 (hy.frm hf))
  unfold rpV at H1 H2 ⊢
  go_enter Try.func7, Try.ntmps7
  go_upto_region 3 with (first | (go_at_call 8; refine (cmdspeaks _).mono ?_; rintro q w1 ⟨rfl, hf1⟩))
  have bX := ((Box.new (Frm.refl No w) [.int .i64 x.k, .int .i64 x.line, .int .i64 x.col, .int .i64 x.count, .string ⟨x.text.toArray⟩, tx, mx] 55).no ((Frm.refl No _).alloc (.cells #[.int .i64 y.k, .int .i64 y.line, .int .i64 y.col, .int .i64 y.count, .string ⟨y.text.toArray⟩, ty, my] 55))).no hf1
  have bY := (Box.new ((Frm.refl No w).alloc (.cells #[.int .i64 x.k, .int .i64 x.line, .int .i64 x.col, .int .i64 x.count, .string ⟨x.text.toArray⟩, tx, mx] 55)) [.int .i64 y.k, .int .i64 y.line, .int .i64 y.col, .int .i64 y.count, .string ⟨y.text.toArray⟩, ty, my] 55).no hf1
  simp only [World.size_alloc] at bY
  clear hf1
  generalize hb1 : w.heap.size = b1 at *
  generalize hb2 : b1 + 1 = b2 at *
  have cX := bX.cell
  obtain ⟨tv, htv⟩ : ∃ t : Rp, Rep.cut x = t := ⟨_, rfl⟩
  rw [htv] at H1
  go_upto_region 4 with (first | (go_at_call 21; refine (H1.out _ bX.frm).mono ?_; rintro q w2 ⟨t1, m1, rfl, hr1, hg1, hf2⟩; obtain ⟨t1a, t1c, rfl⟩ := hr1.shape; obtain ⟨m1a, m1c, rfl⟩ := hg1.shape))
  have b1' := (Box.new (bX.frm.thenNo hf2) [.int .i64 tv.k, .int .i64 tv.line, .int .i64 tv.col, .int .i64 tv.count, .string ⟨tv.text.toArray⟩, .slice t1a tv.texts.length t1c, .slice m1a tv.marks.length m1c] 44).no ((Frm.refl No _).alloc (.cells #[.int .i64 tv.k, .int .i64 tv.line, .int .i64 tv.col, .int .i64 tv.count, .string ⟨tv.text.toArray⟩, .slice t1a tv.texts.length t1c, .slice m1a tv.marks.length m1c] 48))
  have b2' := Box.new ((bX.frm.thenNo hf2).alloc (.cells #[.int .i64 tv.k, .int .i64 tv.line, .int .i64 tv.col, .int .i64 tv.count, .string ⟨tv.text.toArray⟩, .slice t1a tv.texts.length t1c, .slice m1a tv.marks.length m1c] 44)) [.int .i64 tv.k, .int .i64 tv.line, .int .i64 tv.col, .int .i64 tv.count, .string ⟨tv.text.toArray⟩, .slice t1a tv.texts.length t1c, .slice m1a tv.marks.length m1c] 48
  have bY' := bY.no ((hf2.alloc (.cells #[.int .i64 tv.k, .int .i64 tv.line, .int .i64 tv.col, .int .i64 tv.count, .string ⟨tv.text.toArray⟩, .slice t1a tv.texts.length t1c, .slice m1a tv.marks.length m1c] 44)).alloc (.cells #[.int .i64 tv.k, .int .i64 tv.line, .int .i64 tv.col, .int .i64 tv.count, .string ⟨tv.text.toArray⟩, .slice t1a tv.texts.length t1c, .slice m1a tv.marks.length m1c] 48))
  have hr1' := hr1.frm (((Frm.refl No _).alloc (.cells #[.int .i64 tv.k, .int .i64 tv.line, .int .i64 tv.col, .int .i64 tv.count, .string ⟨tv.text.toArray⟩, .slice t1a tv.texts.length t1c, .slice m1a tv.marks.length m1c] 44)).alloc (.cells #[.int .i64 tv.k, .int .i64 tv.line, .int .i64 tv.col, .int .i64 tv.count, .string ⟨tv.text.toArray⟩, .slice t1a tv.texts.length t1c, .slice m1a tv.marks.length m1c] 48)) (fun _ _ h => h)
  have hg1' := hg1.frm (((Frm.refl No _).alloc (.cells #[.int .i64 tv.k, .int .i64 tv.line, .int .i64 tv.col, .int .i64 tv.count, .string ⟨tv.text.toArray⟩, .slice t1a tv.texts.length t1c, .slice m1a tv.marks.length m1c] 44)).alloc (.cells #[.int .i64 tv.k, .int .i64 tv.line, .int .i64 tv.col, .int .i64 tv.count, .string ⟨tv.text.toArray⟩, .slice t1a tv.texts.length t1c, .slice m1a tv.marks.length m1c] 48)) (fun _ _ h => h)
  simp only [World.size_alloc] at b2'
  generalize ((w2.alloc (.cells #[.int .i64 tv.k, .int .i64 tv.line, .int .i64 tv.col, .int .i64 tv.count, .string ⟨tv.text.toArray⟩, .slice t1a tv.texts.length t1c, .slice m1a tv.marks.length m1c] 44)).alloc (.cells #[.int .i64 tv.k, .int .i64 tv.line, .int .i64 tv.col, .int .i64 tv.count, .string ⟨tv.text.toArray⟩, .slice t1a tv.texts.length t1c, .slice m1a tv.marks.length m1c] 48)) = w3 at *
  generalize hp1 : w2.heap.size = p1 at *
  generalize hp2 : p1 + 1 = p2 at *
  clear hr1 hg1 hf2 cX bX bY
  have cY := bY'.cell
  obtain ⟨uv, huv⟩ : ∃ t : Rp, Rep.cut y = t := ⟨_, rfl⟩
  rw [huv] at H2
  go_upto_region 5 with (first | (go_at_call 21; refine (H2.out _ bY'.frm).mono ?_; rintro q w4 ⟨t2, m2, rfl, hr2, hg2, hf4⟩; obtain ⟨t2a, t2c, rfl⟩ := hr2.shape; obtain ⟨m2a, m2c, rfl⟩ := hg2.shape))
  have hal := (hf4.alloc (.cells #[.int .i64 uv.k, .int .i64 uv.line, .int .i64 uv.col, .int .i64 uv.count, .string ⟨uv.text.toArray⟩, .slice t2a uv.texts.length t2c, .slice m2a uv.marks.length m2c] 44)).alloc (.cells #[.int .i64 uv.k, .int .i64 uv.line, .int .i64 uv.col, .int .i64 uv.count, .string ⟨uv.text.toArray⟩, .slice t2a uv.texts.length t2c, .slice m2a uv.marks.length m2c] 48)
  have c1 := b1'.no hal
  have c2 := b2'.no hal
  have c3 := (Box.new (bY'.frm.thenNo hf4) [.int .i64 uv.k, .int .i64 uv.line, .int .i64 uv.col, .int .i64 uv.count, .string ⟨uv.text.toArray⟩, .slice t2a uv.texts.length t2c, .slice m2a uv.marks.length m2c] 44).no ((Frm.refl No _).alloc (.cells #[.int .i64 uv.k, .int .i64 uv.line, .int .i64 uv.col, .int .i64 uv.count, .string ⟨uv.text.toArray⟩, .slice t2a uv.texts.length t2c, .slice m2a uv.marks.length m2c] 48))
  have c4 := Box.new ((bY'.frm.thenNo hf4).alloc (.cells #[.int .i64 uv.k, .int .i64 uv.line, .int .i64 uv.col, .int .i64 uv.count, .string ⟨uv.text.toArray⟩, .slice t2a uv.texts.length t2c, .slice m2a uv.marks.length m2c] 44)) [.int .i64 uv.k, .int .i64 uv.line, .int .i64 uv.col, .int .i64 uv.count, .string ⟨uv.text.toArray⟩, .slice t2a uv.texts.length t2c, .slice m2a uv.marks.length m2c] 48
  have hr1 := hr1'.frm hal (fun _ _ h => h)
  have hg1 := hg1'.frm hal (fun _ _ h => h)
  have hr2 := hr2.frm (((Frm.refl No _).alloc (.cells #[.int .i64 uv.k, .int .i64 uv.line, .int .i64 uv.col, .int .i64 uv.count, .string ⟨uv.text.toArray⟩, .slice t2a uv.texts.length t2c, .slice m2a uv.marks.length m2c] 44)).alloc (.cells #[.int .i64 uv.k, .int .i64 uv.line, .int .i64 uv.col, .int .i64 uv.count, .string ⟨uv.text.toArray⟩, .slice t2a uv.texts.length t2c, .slice m2a uv.marks.length m2c] 48)) (fun _ _ h => h)
  have hg2 := hg2.frm (((Frm.refl No _).alloc (.cells #[.int .i64 uv.k, .int .i64 uv.line, .int .i64 uv.col, .int .i64 uv.count, .string ⟨uv.text.toArray⟩, .slice t2a uv.texts.length t2c, .slice m2a uv.marks.length m2c] 44)).alloc (.cells #[.int .i64 uv.k, .int .i64 uv.line, .int .i64 uv.col, .int .i64 uv.count, .string ⟨uv.text.toArray⟩, .slice t2a uv.texts.length t2c, .slice m2a uv.marks.length m2c] 48)) (fun _ _ h => h)
  simp only [World.size_alloc] at c4
  generalize ((w4.alloc (.cells #[.int .i64 uv.k, .int .i64 uv.line, .int .i64 uv.col, .int .i64 uv.count, .string ⟨uv.text.toArray⟩, .slice t2a uv.texts.length t2c, .slice m2a uv.marks.length m2c] 44)).alloc (.cells #[.int .i64 uv.k, .int .i64 uv.line, .int .i64 uv.col, .int .i64 uv.count, .string ⟨uv.text.toArray⟩, .slice t2a uv.texts.length t2c, .slice m2a uv.marks.length m2c] 48)) = w5 at *
  generalize hp3 : w4.heap.size = p3 at *
  generalize hp4 : p3 + 1 = p4 at *
  clear hr1' hg1' hf4 cY b1' b2' bY' hal H1 H2
  obtain ⟨x1, x2, x3, x4, x5⟩ := htv ▸ Rep.cut_small x hx.ms
  obtain ⟨y1, y2, y3, y4, y5⟩ := huv ▸ Rep.cut_small y hy.ms
  have x3' : ∀ s ∈ tv.texts, s.length ≤ 281474976710656 := fun s hs => by have := x3 s hs; omega
  have HP := hid (fun w' (hf : Frm No w5 w') => reput_any tv _ _ w' (by omega) x3' x5 (hr1.frm hf (fun _ _ h => h)) (hg1.frm hf (fun _ _ h => h)))
  have HQ := hid (fun w' (hf : Frm No w5 w') => rreput_any tv _ _ w' (by omega) x3' x5 (hr1.frm hf (fun _ _ h => h)) (hg1.frm hf (fun _ _ h => h)))
  have HS := hid (fun w' (hf : Frm No w5 w') => csame_any tv uv _ _ _ _ w' (hr1.frm hf (fun _ _ h => h)) (hr2.frm hf (fun _ _ h => h)) (hg1.frm hf (fun _ _ h => h)) (hg2.frm hf (fun _ _ h => h)) (by omega) (by omega) x5 y5)
  have HA := hid (fun w' (hf : Frm No w5 w') => alike_any tv uv _ _ _ _ w' (hr1.frm hf (fun _ _ h => h)) (hr2.frm hf (fun _ _ h => h)) (hg1.frm hf (fun _ _ h => h)) (hg2.frm hf (fun _ _ h => h)) (by omega) (by omega) x5 y5)
  have HT := hid (fun w' (hf : Frm No w5 w') => csame_any tv tv _ _ _ _ w' (hr1.frm hf (fun _ _ h => h)) (hr1.frm hf (fun _ _ h => h)) (hg1.frm hf (fun _ _ h => h)) (hg1.frm hf (fun _ _ h => h)) (by omega) (by omega) x5 x5)
  have HB := hid (fun (r : Rp) v m w' (hf : Frm No w5 w') (h1 : Rd w' v r.texts.length 1 (strsV r.texts)) (h2 : Rd w' m r.marks.length 1 (fltV r.marks)) h3 h4 h5 => alike_any r tv v m _ _ w' h1 (hr1.frm hf (fun _ _ h => h)) h2 (hg1.frm hf (fun _ _ h => h)) h3 h4 h5 x5)
  have HC := hid (fun (r : Rp) v m w' (hf : Frm No w5 w') (h1 : Rd w' v r.texts.length 1 (strsV r.texts)) (h2 : Rd w' m r.marks.length 1 (fltV r.marks)) h3 h4 h5 => csame_any r tv v m _ _ w' h1 (hr1.frm hf (fun _ _ h => h)) h2 (hg1.frm hf (fun _ _ h => h)) h3 h4 h5 x5)
  rw [Rep.same_self] at HT
  have HX := hid (And.intro x1 (And.intro x2 (And.intro x3 (And.intro x4 x5))))
  clear hr1 hg1 hr2 hg2 x1 x2 x3 x4 x5 y1 y2 y3 y4 y5 x3' htv huv hx hy hp1 hp2 hp3 hp4 hb1 hb2
  obtain ⟨S, hS⟩ : ∃ S, Rep.put tv = S := ⟨_, rfl⟩
  rw [hS] at HP HQ
  obtain ⟨Q, hQ⟩ : ∃ Q, Rep.same tv uv = Q := ⟨_, rfl⟩
  rw [hQ] at HS HA
  clear hQ
  unfold rpV at HP HQ HS HA HT HB HC
  have a1 := c1.cell
  go_upto_region 6 with (first | (go_at_call 20; refine (HP.out _ (Frm.refl _ _)).mono ?_; rintro q w6 ⟨rfl, hf6⟩))
  have d1 := c1.no hf6
  have d2 := c2.no hf6
  have d3 := c3.no hf6
  have d4 := c4.no hf6
  clear a1 c1 c2 c3 c4 HP
  have e10 := Wd.cell (d1.cell 0)
  have e11 := Wd.cell (d1.cell 1)
  have e12 := Wd.cell (d1.cell 2)
  have e13 := Wd.cell (d1.cell 3)
  have e14 := Wd.cell (d1.cell 4)
  have e15 := Wd.cell (d1.cell 5)
  have e16 := Wd.cell (d1.cell 6)
  have e20 := Wd.cell (d2.cell 0)
  have e21 := Wd.cell (d2.cell 1)
  have e22 := Wd.cell (d2.cell 2)
  have e23 := Wd.cell (d2.cell 3)
  have e24 := Wd.cell (d2.cell 4)
  have e25 := Wd.cell (d2.cell 5)
  have e26 := Wd.cell (d2.cell 6)
  have e30 := Wd.cell (d3.cell 0)
  have e31 := Wd.cell (d3.cell 1)
  have e32 := Wd.cell (d3.cell 2)
  have e33 := Wd.cell (d3.cell 3)
  have e34 := Wd.cell (d3.cell 4)
  have e35 := Wd.cell (d3.cell 5)
  have e36 := Wd.cell (d3.cell 6)
  have e40 := Wd.cell (d4.cell 0)
  have e41 := Wd.cell (d4.cell 1)
  have e42 := Wd.cell (d4.cell 2)
  have e43 := Wd.cell (d4.cell 3)
  have e44 := Wd.cell (d4.cell 4)
  have e45 := Wd.cell (d4.cell 5)
  have e46 := Wd.cell (d4.cell 6)
  refine wp_region_frm (by kernel_rfl) (by kernel_rfl) ?_
  repeat (go_big_quiet_step (first | with_reducible exact Calls.wd (HQ.out _ (hf6.thenNo (Wd.frm _))) | with_reducible exact Calls.wd (HS.out _ (hf6.thenNo (Wd.frm _))) | with_reducible exact Calls.wd (HA.out _ (hf6.thenNo (Wd.frm _))) | with_reducible exact Calls.wd (HT.out _ (hf6.thenNo (Wd.frm _)))))
  refine wpQuiet_nil ?_
  intro w7 hf7
  clear e10 e11 e12 e13 e14 e15 e16 e20 e21 e22 e23 e24 e25 e26 e30 e31 e32 e33 e34 e35 e36 e40 e41 e42 e43 e44 e45 e46
  have hn1 := d1.no hf7
  have hn2 := d2.no hf7
  clear d1 d2 d3 d4 HQ HS HA HT
  have F7 := hid (hf6.thenNo hf7)
  have FW := hid hn1.frm
  have o1 := hn1.cell
  have o2 := hn2.cell
  dsimp only [Exit.then]
  obtain ⟨x1, x2, x3, x4, x5⟩ := HX.out
  have hbig : Rep.big tv = false := by
    simp only [Rep.big, Bool.or_eq_false_iff, decide_eq_false_iff_not]
    omega
  have hpl := Rep.put_le tv (by omega) (by omega) (by omega) x3
  rw [hS] at hpl
  have HG := hid (fun w' => rget_any S w' hpl)
  cases hbad : Rep.bad tv
  · have hSe : S = Rep.enc tv := by rw [← hS, Rep.put, hbig, hbad]; rfl
    have hSne : S ≠ [] := by rw [hSe]; exact Rep.enc_ne hbad
    have hge := Rep.get_enc tv hbig hbad x5
    rw [← hSe] at hge
    rw [hge] at HG
    have hs' : (S == []) = false := by simpa using hSne
    have hs2 : S.isEmpty = false := by simpa using hSne
    clear hSe hSne hge hbig hbad hS hpl x1 x2 x3 x4 x5
    by_cases hk : tv.k < 0 ∨ 20 < tv.k
    · rw [if_pos hk] at HG
      unfold rpV Rep.none_ at HG
      dsimp only at HG
      go_wp2_with (go_at_call 17; refine (HG.out _).mono ?_; rintro q w8 ⟨v8, m8, rfl, hr8, hg8, hf8⟩; obtain ⟨t8a, t8c, rfl⟩ := hr8.shape; obtain ⟨m8a, m8c, rfl⟩ := hg8.shape; have u2 := fun o => ((hn2.no hf8).no ((Frm.refl No w8).alloc o)).cell)
      all_goals
        go_ret
        exact ⟨rfl, (FW.out.thenNo hf8).alloc _⟩
    · rw [if_neg hk] at HG
      obtain ⟨r, hr⟩ : ∃ r : Rp, { tv with marks := tv.marks.map Mk.canon } = r := ⟨_, rfl⟩
      have hsame : Rep.same r tv = true := by
        rw [← hr]
        simp only [Rep.same, decide_true, Bool.true_and, Bool.and_true, List.map_map]
        exact decide_eq_true (List.map_congr_left fun n hn => ((Mk.get_ok (Mk.put_get n (HX.out.2.2.2.2 n hn))).1).symm)
      have hrt : r.texts.length ≤ 140737488355328 := by rw [← hr]; have := HX.out.2.1; dsimp only; omega
      have hrm : r.marks.length ≤ 140737488355328 := by rw [← hr]; have := HX.out.2.2.2.1; simp; omega
      have hrn : ∀ n ∈ r.marks, n < 18446744073709551616 := by
        rw [← hr]
        intro n hn
        obtain ⟨q, hq, rfl⟩ := List.mem_map.1 hn
        exact Mk.canon_lt (HX.out.2.2.2.2 q hq)
      rw [hr] at HG
      have HB := hid (fun v m w' hf h1 h2 => HB.out r v m w' hf h1 h2 hrt hrm hrn)
      have HC := hid (fun v m w' hf h1 h2 => HC.out r v m w' hf h1 h2 hrt hrm hrn)
      rw [hsame] at HB HC
      clear hr hsame hrt hrm hrn
      unfold rpV at HG
      dsimp only at HG
      have hk1 : ¬ tv.k < 0 := fun h => hk (.inl h)
      have hk2 : ¬ 20 < tv.k := fun h => hk (.inr h)
      go_wp2_with (first | (go_at_call 17; refine (HG.out _).mono ?_; rintro q w8 ⟨v8, m8, rfl, hr8, hg8, hf8⟩; obtain ⟨t8a, t8c, rfl⟩ := hr8.shape; obtain ⟨m8a, m8c, rfl⟩ := hg8.shape; have u2 := fun o => ((hn2.no hf8).no ((Frm.refl No w8).alloc o)).cell; have hr8' := fun o => hr8.frm ((Frm.refl No w8).alloc o) (fun _ _ h => h); have hg8' := fun o => hg8.frm ((Frm.refl No w8).alloc o) (fun _ _ h => h)) | (go_at_call 19; refine (HB.out _ _ _ (F7.out.thenNo (hf8.alloc _)) (hr8' _) (hg8' _)).mono ?_; rintro q w9 ⟨rfl, hf9⟩; have u9 := hf9.box; have u1 := (((hn1.no hf8).no ((Frm.refl No w8).alloc _)).no hf9).cell) | (go_at_call 23; refine (HC.out _ _ _ ((F7.out.thenNo (hf8.alloc _)).thenNo hf9) ((hr8' _).frm hf9 (fun _ _ h => h)) ((hg8' _).frm hf9 (fun _ _ h => h))).mono ?_; rintro q w10 ⟨rfl, hf10⟩))
      go_ret
      exact ⟨rfl, ((FW.out.thenNo (hf8.alloc _)).thenNo hf9).thenNo hf10⟩
  · have hSe : S = [] := by rw [← hS, Rep.put, hbad]; simp
    subst hSe
    clear hbig hbad hS hpl x1 x2 x3 x4 x5
    rw [Rep.get_nil] at HG
    unfold rpV Rep.none_ at HG
    dsimp only at HG
    go_wp2_with (go_at_call 17; refine (HG.out _).mono ?_; rintro q w8 ⟨v8, m8, rfl, hr8, hg8, hf8⟩; obtain ⟨t8a, t8c, rfl⟩ := hr8.shape; obtain ⟨m8a, m8c, rfl⟩ := hg8.shape; have u2 := fun o => ((hn2.no hf8).no ((Frm.refl No w8).alloc o)).cell)
    go_ret
    exact ⟨rfl, (FW.out.thenNo hf8).alloc _⟩
theorem walk2 (x y : Rp × Value × Value) (w : World) (hx : AnsOK w x.1 x.2.1 x.2.2) (hy : AnsOK w y.1 y.2.1 y.2.2) :
    Calls Try.prog 7 #[rpV x.1 x.2.1 x.2.2, rpV y.1 y.2.1 y.2.2] w fun e w' => e = .returned (.bool true) ∧ Frm No w w' := walk x.1 y.1 _ _ _ _ w hx hy
set_option maxRecDepth 100000 in
theorem lifted (os : Os) (started : os.Started) (H : Type) (enc : TypeId × Value → H) :
    ReturnsInHanded {} Try.checked os 7 .any (Rows.commandRepliesSpec.pre6 enc Try.prog Try.f7 Rows.commandRepliesRow.domain false) (Rows.commandRepliesSpec.post enc Try.prog Try.f7 false true false false) := by
  refine returnsInHanded_of_change_sized (C := Try.checked) own started (by kernel_rfl) Try.func7
    (ChangeSpec.witness6 (enc := enc) (C := Try.checked) false ⟨#[], #[.agg #[.int .i64 0, .int .i64 0, .int .i64 0, .int .i64 0, .string ByteArray.empty, .slice none 0 0, .slice none 0 0], .agg #[.int .i64 0, .int .i64 0, .int .i64 0, .int .i64 0, .string ByteArray.empty, .slice none 0 0, .slice none 0 0]], []⟩ 8 (by kernel_rfl) (by kernel_rfl) (by kernel_rfl) (by kernel_rfl)) ?_
  intro W base args ds gs before hval0 hW _ hsz0 _
  have hsz : (DataW.weightsEach Try.prog (Try.f7.params.toList ++ Rows.commandRepliesSpec.plain.varTypes Try.prog) (ds ++ gs)).all (· ≤ reachBytes) = true := hsz0
  clear hsz0
  have hval : ∀ (j : Nat) t v, Try.f7.params[j]? = some t → args[j]? = some v → Value.okWide Try.prog W .any base t v := hval0
  have hW' : DataW.Whole enc Try.prog Try.f7.params.toList Rows.commandRepliesSpec.vars false W args.toList ds gs before := hW
  have hts : ∀ t ∈ Try.f7.params.toList, Try.prog.readableRec t = true ∧ t < Try.prog.types.size := by
    rw [Try.params7]
    intro t ht
    simp only [List.mem_cons, List.not_mem_nil, or_false] at ht
    rcases ht with rfl | rfl <;> exact ⟨by kernel_rfl, of_decide_eq_true (by kernel_rfl)⟩
  obtain ⟨p, q, hA0, hV, hbef, hfz, hnd⟩ := hW
  have hA : DataW.TrodAll enc Try.prog W 0 (fun _ => true) true Try.f7.params.toList args.toList ds p := hA0
  rw [Try.params7] at hA hval hsz
  obtain ⟨v0, vs0, d0, ds0, p0, q0, hargs, rfl, rfl, h0, r0⟩ := trodAll_cons hA
  obtain ⟨v1, vs1, d1, ds1, p1, q1, rfl, rfl, rfl, h1, r1⟩ := trodAll_cons r0
  obtain ⟨rfl, rfl, rfl⟩ := trodAll_nil r1
  obtain rfl : args = #[v0, v1] := by cases args; simp_all
  clear hA hA0 hval0
  obtain ⟨x0, rfl, hg0⟩ := open_ans (enc := enc) h0 (hval 0 55 v0 rfl rfl)
  obtain ⟨x1, rfl, hg1⟩ := open_ans (enc := enc) h1 (hval 1 55 v1 rfl rfl)
  refine (walk2 x0 x1 W hg0 hg1).mono fun e W' ⟨he, hg⟩ => ?_
  subst he
  exact ⟨_, rfl, post_law hW' rfl Try.underlying4 rfl rfl rfl rfl laidOut hts hg.toBelow⟩

theorem over : Rows.commandRepliesRow.holds Try.pinned (OpenSpec.ofChange Rows.commandRepliesSpec) :=
  OpenClaim.holds_of_wide 7 Try.f7 rfl rfl rfl rfl rfl rfl rfl ⟨rfl, rfl, rfl, rfl, rfl⟩ rfl rfl rfl rfl rfl (by kernel_rfl) Try.func7 (by kernel_rfl)
    (of_decide_eq_true (by kernel_rfl)) (by unfold Func.isWrapper; first | (rw [if_pos (by decide +kernel)]; kernel_rfl) | (rw [if_neg (by decide +kernel)]; exact ⟨rfl, rfl⟩))
    (fun os started H enc _ => lifted os started H enc)

theorem proved : Rows.CommandRepliesSaid :=
  over
#print axioms proved
end CmdReplies
end Go.Proofs.Ytjhodcdjkokkoaa
