/- Two good messages with the same bytes are the same. Printed by a program (msginj.py). The walk of MessageApart: two good messages have the same frame just where they are alike. -/
import Derived.Test.YtlnmefpndgmenaaDoorMsgG8
import Derived.Test.YtlnmefpndgmenaaDoorMsgG12
import Derived.Test.YtlnmefpndgmenaaDoorMsgMake
import Derived.Test.YtlnmefpndgmenaaDoorMsgSame
import Derived.BigQuiet
namespace Go.Proofs.YtlnmefpndgmenaaDoor
open Msg

theorem lv (m : Ms) : letB m 118 = Oct.enc m.view := rfl
theorem ll (m : Ms) : letB m 108 = Oct.enc m.last := rfl
theorem lo (m : Ms) : letB m 111 = Oct.enc m.op := rfl
theorem lc (m : Ms) : letB m 99 = Oct.enc m.commit := rfl
theorem li (m : Ms) : letB m 105 = Oct.enc m.client := rfl
theorem ln (m : Ms) : letB m 110 = Oct.enc m.number := rfl
theorem lt (m : Ms) : letB m 116 = Oct.text m.text := rfl
theorem lx (m : Ms) : letB m 120 = Oct.enc m.nonce := rfl
theorem lf (m : Ms) : letB m 102 = Oct.flag m.full := rfl
theorem lT (m : Ms) : letB m 84 = tailB m := rfl
theorem le1 (m : Ms) (x : Ent) (h : m.entries = [x]) : letB m 101 = entB x := by
  show (match m.entries with | [] => [] | x :: _ => entB x : List UInt8) = entB x
  rw [h]
theorem enc_inj {n m : Int} (hn : Msg.num n = true) (hm : Msg.num m = true) {r s : List UInt8} (h : Oct.enc n ++ r = Oct.enc m ++ s) : n = m ∧ r = s := by
  have h1 := rInt_enc (enc_num hn) r
  have h2 := rInt_enc (enc_num hm) s
  rw [h, h2] at h1
  simp only [Prod.mk.injEq, and_true] at h1
  exact ⟨h1.1.symm, h1.2.symm⟩
theorem text_inj {a b : List UInt8} (ha : a.length ≤ 65536) (hb : b.length ≤ 65536) {r s : List UInt8} (h : Oct.text a ++ r = Oct.text b ++ s) : a = b ∧ r = s := by
  have h1 := rText_text ha r
  have h2 := rText_text hb s
  rw [h, h2] at h1
  simp only [Prod.mk.injEq, and_true] at h1
  exact ⟨h1.1.symm, h1.2.symm⟩
theorem flag_inj {a b : Bool} {r s : List UInt8} (h : Oct.flag a ++ r = Oct.flag b ++ s) : a = b ∧ r = s := by
  have h1 := rBool_flag a r
  have h2 := rBool_flag b s
  rw [h, h2] at h1
  simp only [Prod.mk.injEq, and_true] at h1
  exact ⟨h1.1.symm, h1.2.symm⟩
theorem ints_inj : ∀ {a b : List Int} (_ : a.all Msg.num = true) (_ : b.all Msg.num = true) (_ : a.length = b.length) {r s : List UInt8} (_ : Oct.ints a ++ r = Oct.ints b ++ s), a = b ∧ r = s
  | [], [], _, _, _, _, _, h => ⟨rfl, by simpa [Oct.ints] using h⟩
  | x :: a, y :: b, ha, hb, hl, r, s, h => by
    simp only [List.all_cons, Bool.and_eq_true] at ha hb
    have e1 : Oct.ints (x :: a) ++ r = Oct.enc x ++ (Oct.ints a ++ r) := by simp [Oct.ints]
    have e2 : Oct.ints (y :: b) ++ s = Oct.enc y ++ (Oct.ints b ++ s) := by simp [Oct.ints]
    rw [e1, e2] at h
    obtain ⟨rfl, h2⟩ := enc_inj ha.1 hb.1 h
    obtain ⟨rfl, h3⟩ := ints_inj ha.2 hb.2 (by simpa using hl) h2
    exact ⟨rfl, h3⟩
theorem entB_inj {a b : Ent} (ha : entG a = true) (hb : entG b = true) {r s : List UInt8} (h : entB a ++ r = entB b ++ s) : a = b ∧ r = s := by
  obtain ⟨a1, a2, a3⟩ := ent_parts ha
  obtain ⟨b1, b2, b3⟩ := ent_parts hb
  obtain ⟨c, n, t⟩ := a
  obtain ⟨c', n', t'⟩ := b
  simp only [entB, List.append_assoc] at h a1 a2 a3 b1 b2 b3
  obtain ⟨rfl, h2⟩ := enc_inj a1 b1 h
  obtain ⟨rfl, h3⟩ := enc_inj a2 b2 h2
  obtain ⟨rfl, h4⟩ := text_inj (by omega) (by omega) h3
  exact ⟨rfl, h4⟩
theorem ents_inj : ∀ {a b : List Ent} (_ : a.all entG = true) (_ : b.all entG = true) (_ : a.length = b.length) {r s : List UInt8} (_ : entsB a ++ r = entsB b ++ s), a = b ∧ r = s
  | [], [], _, _, _, _, _, h => ⟨rfl, by simpa [entsB] using h⟩
  | x :: a, y :: b, ha, hb, hl, r, s, h => by
    simp only [List.all_cons, Bool.and_eq_true] at ha hb
    have e1 : entsB (x :: a) ++ r = entB x ++ (entsB a ++ r) := by simp [entsB]
    have e2 : entsB (y :: b) ++ s = entB y ++ (entsB b ++ s) := by simp [entsB]
    rw [e1, e2] at h
    obtain ⟨rfl, h2⟩ := entB_inj ha.1 hb.1 h
    obtain ⟨rfl, h3⟩ := ents_inj ha.2 hb.2 (by simpa using hl) h2
    exact ⟨rfl, h3⟩
theorem len_inj {a b : List Ent} (ha : a.length ≤ 64) (hb : b.length ≤ 64) {r s : List UInt8} (h : Oct.enc a.length ++ r = Oct.enc b.length ++ s) : a.length = b.length ∧ r = s := by
  obtain ⟨h1, h2⟩ := enc_inj (num_len ha) (num_len hb) h
  exact ⟨by omega, h2⟩

set_option maxHeartbeats 4000000 in
theorem inj1 {r : Int} (from_1 born1 from_2 born2 : Int) (known1 known2 : List Int) (view1 last1 op1 commit1 client1 number1 nonce1 view2 last2 op2 commit2 client2 number2 nonce2 : Int) (text1 text2 : List UInt8) (full1 full2 : Bool) (base1 base2 : Int) (state1 state2 : List UInt8) (entries1 entries2 : List Ent)
    (ha : good ⟨1, from_1, born1, known1, view1, last1, op1, commit1, client1, number1, nonce1, text1, full1, base1, state1, entries1⟩ r = true) (hb : good ⟨1, from_2, born2, known2, view2, last2, op2, commit2, client2, number2, nonce2, text2, full2, base2, state2, entries2⟩ r = true) (h : restB ⟨1, from_1, born1, known1, view1, last1, op1, commit1, client1, number1, nonce1, text1, full1, base1, state1, entries1⟩ = restB ⟨1, from_2, born2, known2, view2, last2, op2, commit2, client2, number2, nonce2, text2, full2, base2, state2, entries2⟩) : (⟨1, from_1, born1, known1, view1, last1, op1, commit1, client1, number1, nonce1, text1, full1, base1, state1, entries1⟩ : Ms) = ⟨1, from_2, born2, known2, view2, last2, op2, commit2, client2, number2, nonce2, text2, full2, base2, state2, entries2⟩ := by
  obtain ⟨wa, -, -, pa, -, ga, -⟩ := good_parts ha
  obtain ⟨wb, -, -, pb, -, gb, -⟩ := good_parts hb
  clear ha hb
  simp only [restB, headB, lets, li, ln, lt, List.flatMap_cons, List.flatMap_nil, List.append_nil, List.append_assoc, List.nil_append, Int.reduceEq, ite_true, ite_false] at h
  simp [headG] at ga gb
  replace h := congrArg (· ++ ([] : List UInt8)) h
  try simp only [List.append_assoc] at h
  obtain ⟨e4, h⟩ := enc_inj wa.client wb.client h
  obtain ⟨e5, h⟩ := enc_inj wa.number wb.number h
  obtain ⟨e6, h⟩ := text_inj wa.text wb.text h
  simp only [proj, has, lets, Ms.mk.injEq, reduceIte, Int.reduceEq] at pa pb
  simp at pa pb
  (try simp_all) <;> (try omega)
set_option maxHeartbeats 4000000 in
theorem inj2 {r : Int} (from_1 born1 from_2 born2 : Int) (known1 known2 : List Int) (view1 last1 op1 commit1 client1 number1 nonce1 view2 last2 op2 commit2 client2 number2 nonce2 : Int) (text1 text2 : List UInt8) (full1 full2 : Bool) (base1 base2 : Int) (state1 state2 : List UInt8) (entries1 entries2 : List Ent)
    (ha : good ⟨2, from_1, born1, known1, view1, last1, op1, commit1, client1, number1, nonce1, text1, full1, base1, state1, entries1⟩ r = true) (hb : good ⟨2, from_2, born2, known2, view2, last2, op2, commit2, client2, number2, nonce2, text2, full2, base2, state2, entries2⟩ r = true) (h : restB ⟨2, from_1, born1, known1, view1, last1, op1, commit1, client1, number1, nonce1, text1, full1, base1, state1, entries1⟩ = restB ⟨2, from_2, born2, known2, view2, last2, op2, commit2, client2, number2, nonce2, text2, full2, base2, state2, entries2⟩) : (⟨2, from_1, born1, known1, view1, last1, op1, commit1, client1, number1, nonce1, text1, full1, base1, state1, entries1⟩ : Ms) = ⟨2, from_2, born2, known2, view2, last2, op2, commit2, client2, number2, nonce2, text2, full2, base2, state2, entries2⟩ := by
  obtain ⟨wa, -, -, pa, -, ga, -⟩ := good_parts ha
  obtain ⟨wb, -, -, pb, -, gb, -⟩ := good_parts hb
  clear ha hb
  obtain ⟨x, hx⟩ := one_of (wa.one rfl)
  obtain ⟨y, hy⟩ := one_of (wb.one rfl)
  dsimp only at hx hy
  subst hx hy
  simp only [restB, lets, List.flatMap_cons, List.flatMap_nil, reduceIte, Int.reduceEq] at h
  rw [le1 _ x rfl, le1 _ y rfl] at h
  simp only [headB, lv, lo, lc, List.append_nil, List.append_assoc, Int.reduceEq, ite_false] at h
  simp [headG] at ga gb
  obtain ⟨e1, h⟩ := enc_inj (wa.from_ (by simp)) (wb.from_ (by simp)) h
  obtain ⟨e2, h⟩ := enc_inj wa.born wb.born h
  obtain ⟨e3, h⟩ := ints_inj wa.known wb.known (by show known1.length = known2.length; omega) h
  replace h := congrArg (· ++ ([] : List UInt8)) h
  try simp only [List.append_assoc] at h
  obtain ⟨e4, h⟩ := enc_inj wa.view wb.view h
  obtain ⟨e5, h⟩ := enc_inj wa.op wb.op h
  obtain ⟨e6, h⟩ := enc_inj wa.commit wb.commit h
  obtain ⟨e7, h⟩ := entB_inj (List.all_eq_true.1 wa.ents _ (by simp)) (List.all_eq_true.1 wb.ents _ (by simp)) h
  simp only [proj, has, lets, Ms.mk.injEq, reduceIte, Int.reduceEq] at pa pb
  simp at pa pb
  (try simp_all) <;> (try omega)
set_option maxHeartbeats 4000000 in
theorem inj3 {r : Int} (from_1 born1 from_2 born2 : Int) (known1 known2 : List Int) (view1 last1 op1 commit1 client1 number1 nonce1 view2 last2 op2 commit2 client2 number2 nonce2 : Int) (text1 text2 : List UInt8) (full1 full2 : Bool) (base1 base2 : Int) (state1 state2 : List UInt8) (entries1 entries2 : List Ent)
    (ha : good ⟨3, from_1, born1, known1, view1, last1, op1, commit1, client1, number1, nonce1, text1, full1, base1, state1, entries1⟩ r = true) (hb : good ⟨3, from_2, born2, known2, view2, last2, op2, commit2, client2, number2, nonce2, text2, full2, base2, state2, entries2⟩ r = true) (h : restB ⟨3, from_1, born1, known1, view1, last1, op1, commit1, client1, number1, nonce1, text1, full1, base1, state1, entries1⟩ = restB ⟨3, from_2, born2, known2, view2, last2, op2, commit2, client2, number2, nonce2, text2, full2, base2, state2, entries2⟩) : (⟨3, from_1, born1, known1, view1, last1, op1, commit1, client1, number1, nonce1, text1, full1, base1, state1, entries1⟩ : Ms) = ⟨3, from_2, born2, known2, view2, last2, op2, commit2, client2, number2, nonce2, text2, full2, base2, state2, entries2⟩ := by
  obtain ⟨wa, -, -, pa, -, ga, -⟩ := good_parts ha
  obtain ⟨wb, -, -, pb, -, gb, -⟩ := good_parts hb
  clear ha hb
  simp only [restB, headB, lets, lv, lo, List.flatMap_cons, List.flatMap_nil, List.append_nil, List.append_assoc, Int.reduceEq, ite_true, ite_false] at h
  simp [headG] at ga gb
  obtain ⟨e1, h⟩ := enc_inj (wa.from_ (by simp)) (wb.from_ (by simp)) h
  obtain ⟨e2, h⟩ := enc_inj wa.born wb.born h
  obtain ⟨e3, h⟩ := ints_inj wa.known wb.known (by show known1.length = known2.length; omega) h
  replace h := congrArg (· ++ ([] : List UInt8)) h
  try simp only [List.append_assoc] at h
  obtain ⟨e4, h⟩ := enc_inj wa.view wb.view h
  obtain ⟨e5, h⟩ := enc_inj wa.op wb.op h
  simp only [proj, has, lets, Ms.mk.injEq, reduceIte, Int.reduceEq] at pa pb
  simp at pa pb
  (try simp_all) <;> (try omega)
set_option maxHeartbeats 4000000 in
theorem inj4 {r : Int} (from_1 born1 from_2 born2 : Int) (known1 known2 : List Int) (view1 last1 op1 commit1 client1 number1 nonce1 view2 last2 op2 commit2 client2 number2 nonce2 : Int) (text1 text2 : List UInt8) (full1 full2 : Bool) (base1 base2 : Int) (state1 state2 : List UInt8) (entries1 entries2 : List Ent)
    (ha : good ⟨4, from_1, born1, known1, view1, last1, op1, commit1, client1, number1, nonce1, text1, full1, base1, state1, entries1⟩ r = true) (hb : good ⟨4, from_2, born2, known2, view2, last2, op2, commit2, client2, number2, nonce2, text2, full2, base2, state2, entries2⟩ r = true) (h : restB ⟨4, from_1, born1, known1, view1, last1, op1, commit1, client1, number1, nonce1, text1, full1, base1, state1, entries1⟩ = restB ⟨4, from_2, born2, known2, view2, last2, op2, commit2, client2, number2, nonce2, text2, full2, base2, state2, entries2⟩) : (⟨4, from_1, born1, known1, view1, last1, op1, commit1, client1, number1, nonce1, text1, full1, base1, state1, entries1⟩ : Ms) = ⟨4, from_2, born2, known2, view2, last2, op2, commit2, client2, number2, nonce2, text2, full2, base2, state2, entries2⟩ := by
  obtain ⟨wa, -, -, pa, -, ga, -⟩ := good_parts ha
  obtain ⟨wb, -, -, pb, -, gb, -⟩ := good_parts hb
  clear ha hb
  simp only [restB, headB, lets, lv, li, ln, lt, List.flatMap_cons, List.flatMap_nil, List.append_nil, List.append_assoc, Int.reduceEq, ite_true, ite_false] at h
  simp [headG] at ga gb
  obtain ⟨e1, h⟩ := enc_inj (wa.from_ (by simp)) (wb.from_ (by simp)) h
  obtain ⟨e2, h⟩ := enc_inj wa.born wb.born h
  obtain ⟨e3, h⟩ := ints_inj wa.known wb.known (by show known1.length = known2.length; omega) h
  replace h := congrArg (· ++ ([] : List UInt8)) h
  try simp only [List.append_assoc] at h
  obtain ⟨e4, h⟩ := enc_inj wa.view wb.view h
  obtain ⟨e5, h⟩ := enc_inj wa.client wb.client h
  obtain ⟨e6, h⟩ := enc_inj wa.number wb.number h
  obtain ⟨e7, h⟩ := text_inj wa.text wb.text h
  simp only [proj, has, lets, Ms.mk.injEq, reduceIte, Int.reduceEq] at pa pb
  simp at pa pb
  (try simp_all) <;> (try omega)
set_option maxHeartbeats 4000000 in
theorem inj5 {r : Int} (from_1 born1 from_2 born2 : Int) (known1 known2 : List Int) (view1 last1 op1 commit1 client1 number1 nonce1 view2 last2 op2 commit2 client2 number2 nonce2 : Int) (text1 text2 : List UInt8) (full1 full2 : Bool) (base1 base2 : Int) (state1 state2 : List UInt8) (entries1 entries2 : List Ent)
    (ha : good ⟨5, from_1, born1, known1, view1, last1, op1, commit1, client1, number1, nonce1, text1, full1, base1, state1, entries1⟩ r = true) (hb : good ⟨5, from_2, born2, known2, view2, last2, op2, commit2, client2, number2, nonce2, text2, full2, base2, state2, entries2⟩ r = true) (h : restB ⟨5, from_1, born1, known1, view1, last1, op1, commit1, client1, number1, nonce1, text1, full1, base1, state1, entries1⟩ = restB ⟨5, from_2, born2, known2, view2, last2, op2, commit2, client2, number2, nonce2, text2, full2, base2, state2, entries2⟩) : (⟨5, from_1, born1, known1, view1, last1, op1, commit1, client1, number1, nonce1, text1, full1, base1, state1, entries1⟩ : Ms) = ⟨5, from_2, born2, known2, view2, last2, op2, commit2, client2, number2, nonce2, text2, full2, base2, state2, entries2⟩ := by
  obtain ⟨wa, -, -, pa, -, ga, -⟩ := good_parts ha
  obtain ⟨wb, -, -, pb, -, gb, -⟩ := good_parts hb
  clear ha hb
  simp only [restB, headB, lets, lv, lo, lc, List.flatMap_cons, List.flatMap_nil, List.append_nil, List.append_assoc, Int.reduceEq, ite_true, ite_false] at h
  simp [headG] at ga gb
  obtain ⟨e1, h⟩ := enc_inj (wa.from_ (by simp)) (wb.from_ (by simp)) h
  obtain ⟨e2, h⟩ := enc_inj wa.born wb.born h
  obtain ⟨e3, h⟩ := ints_inj wa.known wb.known (by show known1.length = known2.length; omega) h
  replace h := congrArg (· ++ ([] : List UInt8)) h
  try simp only [List.append_assoc] at h
  obtain ⟨e4, h⟩ := enc_inj wa.view wb.view h
  obtain ⟨e5, h⟩ := enc_inj wa.op wb.op h
  obtain ⟨e6, h⟩ := enc_inj wa.commit wb.commit h
  simp only [proj, has, lets, Ms.mk.injEq, reduceIte, Int.reduceEq] at pa pb
  simp at pa pb
  (try simp_all) <;> (try omega)
set_option maxHeartbeats 4000000 in
theorem inj6 {r : Int} (from_1 born1 from_2 born2 : Int) (known1 known2 : List Int) (view1 last1 op1 commit1 client1 number1 nonce1 view2 last2 op2 commit2 client2 number2 nonce2 : Int) (text1 text2 : List UInt8) (full1 full2 : Bool) (base1 base2 : Int) (state1 state2 : List UInt8) (entries1 entries2 : List Ent)
    (ha : good ⟨6, from_1, born1, known1, view1, last1, op1, commit1, client1, number1, nonce1, text1, full1, base1, state1, entries1⟩ r = true) (hb : good ⟨6, from_2, born2, known2, view2, last2, op2, commit2, client2, number2, nonce2, text2, full2, base2, state2, entries2⟩ r = true) (h : restB ⟨6, from_1, born1, known1, view1, last1, op1, commit1, client1, number1, nonce1, text1, full1, base1, state1, entries1⟩ = restB ⟨6, from_2, born2, known2, view2, last2, op2, commit2, client2, number2, nonce2, text2, full2, base2, state2, entries2⟩) : (⟨6, from_1, born1, known1, view1, last1, op1, commit1, client1, number1, nonce1, text1, full1, base1, state1, entries1⟩ : Ms) = ⟨6, from_2, born2, known2, view2, last2, op2, commit2, client2, number2, nonce2, text2, full2, base2, state2, entries2⟩ := by
  obtain ⟨wa, -, -, pa, -, ga, -⟩ := good_parts ha
  obtain ⟨wb, -, -, pb, -, gb, -⟩ := good_parts hb
  clear ha hb
  simp only [restB, headB, lets, lv, List.flatMap_cons, List.flatMap_nil, List.append_nil, List.append_assoc, Int.reduceEq, ite_true, ite_false] at h
  simp [headG] at ga gb
  obtain ⟨e1, h⟩ := enc_inj (wa.from_ (by simp)) (wb.from_ (by simp)) h
  obtain ⟨e2, h⟩ := enc_inj wa.born wb.born h
  obtain ⟨e3, h⟩ := ints_inj wa.known wb.known (by show known1.length = known2.length; omega) h
  replace h := congrArg (· ++ ([] : List UInt8)) h
  try simp only [List.append_assoc] at h
  obtain ⟨e4, h⟩ := enc_inj wa.view wb.view h
  simp only [proj, has, lets, Ms.mk.injEq, reduceIte, Int.reduceEq] at pa pb
  simp at pa pb
  (try simp_all) <;> (try omega)
set_option maxHeartbeats 4000000 in
theorem inj7 {r : Int} (from_1 born1 from_2 born2 : Int) (known1 known2 : List Int) (view1 last1 op1 commit1 client1 number1 nonce1 view2 last2 op2 commit2 client2 number2 nonce2 : Int) (text1 text2 : List UInt8) (full1 full2 : Bool) (base1 base2 : Int) (state1 state2 : List UInt8) (entries1 entries2 : List Ent)
    (ha : good ⟨7, from_1, born1, known1, view1, last1, op1, commit1, client1, number1, nonce1, text1, full1, base1, state1, entries1⟩ r = true) (hb : good ⟨7, from_2, born2, known2, view2, last2, op2, commit2, client2, number2, nonce2, text2, full2, base2, state2, entries2⟩ r = true) (h : restB ⟨7, from_1, born1, known1, view1, last1, op1, commit1, client1, number1, nonce1, text1, full1, base1, state1, entries1⟩ = restB ⟨7, from_2, born2, known2, view2, last2, op2, commit2, client2, number2, nonce2, text2, full2, base2, state2, entries2⟩) : (⟨7, from_1, born1, known1, view1, last1, op1, commit1, client1, number1, nonce1, text1, full1, base1, state1, entries1⟩ : Ms) = ⟨7, from_2, born2, known2, view2, last2, op2, commit2, client2, number2, nonce2, text2, full2, base2, state2, entries2⟩ := by
  obtain ⟨wa, -, -, pa, -, ga, -⟩ := good_parts ha
  obtain ⟨wb, -, -, pb, -, gb, -⟩ := good_parts hb
  clear ha hb
  simp only [restB, headB, lets, lv, ll, lo, lc, lT, tailB, List.flatMap_cons, List.flatMap_nil, List.append_nil, List.append_assoc, Int.reduceEq, ite_true, ite_false] at h
  simp [headG] at ga gb
  obtain ⟨e1, h⟩ := enc_inj (wa.from_ (by simp)) (wb.from_ (by simp)) h
  obtain ⟨e2, h⟩ := enc_inj wa.born wb.born h
  obtain ⟨e3, h⟩ := ints_inj wa.known wb.known (by show known1.length = known2.length; omega) h
  replace h := congrArg (· ++ ([] : List UInt8)) h
  try simp only [List.append_assoc] at h
  obtain ⟨e4, h⟩ := enc_inj wa.view wb.view h
  obtain ⟨e5, h⟩ := enc_inj wa.last wb.last h
  obtain ⟨e6, h⟩ := enc_inj wa.op wb.op h
  obtain ⟨e7, h⟩ := enc_inj wa.commit wb.commit h
  obtain ⟨e8, h⟩ := enc_inj wa.base wb.base h
  obtain ⟨e9, h⟩ := text_inj wa.state wb.state h
  obtain ⟨hl, h⟩ := len_inj wa.elen wb.elen h
  obtain ⟨e10, h⟩ := ents_inj wa.ents wb.ents hl h
  simp only [proj, has, lets, Ms.mk.injEq, reduceIte, Int.reduceEq] at pa pb
  simp at pa pb
  (try simp_all) <;> (try omega)
set_option maxHeartbeats 4000000 in
theorem inj8 {r : Int} (from_1 born1 from_2 born2 : Int) (known1 known2 : List Int) (view1 last1 op1 commit1 client1 number1 nonce1 view2 last2 op2 commit2 client2 number2 nonce2 : Int) (text1 text2 : List UInt8) (full1 full2 : Bool) (base1 base2 : Int) (state1 state2 : List UInt8) (entries1 entries2 : List Ent)
    (ha : good ⟨8, from_1, born1, known1, view1, last1, op1, commit1, client1, number1, nonce1, text1, full1, base1, state1, entries1⟩ r = true) (hb : good ⟨8, from_2, born2, known2, view2, last2, op2, commit2, client2, number2, nonce2, text2, full2, base2, state2, entries2⟩ r = true) (h : restB ⟨8, from_1, born1, known1, view1, last1, op1, commit1, client1, number1, nonce1, text1, full1, base1, state1, entries1⟩ = restB ⟨8, from_2, born2, known2, view2, last2, op2, commit2, client2, number2, nonce2, text2, full2, base2, state2, entries2⟩) : (⟨8, from_1, born1, known1, view1, last1, op1, commit1, client1, number1, nonce1, text1, full1, base1, state1, entries1⟩ : Ms) = ⟨8, from_2, born2, known2, view2, last2, op2, commit2, client2, number2, nonce2, text2, full2, base2, state2, entries2⟩ := by
  obtain ⟨wa, -, -, pa, -, ga, -⟩ := good_parts ha
  obtain ⟨wb, -, -, pb, -, gb, -⟩ := good_parts hb
  clear ha hb
  simp only [restB, headB, lets, lv, lo, lc, lT, tailB, List.flatMap_cons, List.flatMap_nil, List.append_nil, List.append_assoc, Int.reduceEq, ite_true, ite_false] at h
  simp [headG] at ga gb
  obtain ⟨e1, h⟩ := enc_inj (wa.from_ (by simp)) (wb.from_ (by simp)) h
  obtain ⟨e2, h⟩ := enc_inj wa.born wb.born h
  obtain ⟨e3, h⟩ := ints_inj wa.known wb.known (by show known1.length = known2.length; omega) h
  replace h := congrArg (· ++ ([] : List UInt8)) h
  try simp only [List.append_assoc] at h
  obtain ⟨e4, h⟩ := enc_inj wa.view wb.view h
  obtain ⟨e5, h⟩ := enc_inj wa.op wb.op h
  obtain ⟨e6, h⟩ := enc_inj wa.commit wb.commit h
  obtain ⟨e7, h⟩ := enc_inj wa.base wb.base h
  obtain ⟨e8, h⟩ := text_inj wa.state wb.state h
  obtain ⟨hl, h⟩ := len_inj wa.elen wb.elen h
  obtain ⟨e9, h⟩ := ents_inj wa.ents wb.ents hl h
  simp only [proj, has, lets, Ms.mk.injEq, reduceIte, Int.reduceEq] at pa pb
  simp at pa pb
  (try simp_all) <;> (try omega)
set_option maxHeartbeats 4000000 in
theorem inj9 {r : Int} (from_1 born1 from_2 born2 : Int) (known1 known2 : List Int) (view1 last1 op1 commit1 client1 number1 nonce1 view2 last2 op2 commit2 client2 number2 nonce2 : Int) (text1 text2 : List UInt8) (full1 full2 : Bool) (base1 base2 : Int) (state1 state2 : List UInt8) (entries1 entries2 : List Ent)
    (ha : good ⟨9, from_1, born1, known1, view1, last1, op1, commit1, client1, number1, nonce1, text1, full1, base1, state1, entries1⟩ r = true) (hb : good ⟨9, from_2, born2, known2, view2, last2, op2, commit2, client2, number2, nonce2, text2, full2, base2, state2, entries2⟩ r = true) (h : restB ⟨9, from_1, born1, known1, view1, last1, op1, commit1, client1, number1, nonce1, text1, full1, base1, state1, entries1⟩ = restB ⟨9, from_2, born2, known2, view2, last2, op2, commit2, client2, number2, nonce2, text2, full2, base2, state2, entries2⟩) : (⟨9, from_1, born1, known1, view1, last1, op1, commit1, client1, number1, nonce1, text1, full1, base1, state1, entries1⟩ : Ms) = ⟨9, from_2, born2, known2, view2, last2, op2, commit2, client2, number2, nonce2, text2, full2, base2, state2, entries2⟩ := by
  obtain ⟨wa, -, -, pa, -, ga, -⟩ := good_parts ha
  obtain ⟨wb, -, -, pb, -, gb, -⟩ := good_parts hb
  clear ha hb
  simp only [restB, headB, lets, lx, List.flatMap_cons, List.flatMap_nil, List.append_nil, List.append_assoc, Int.reduceEq, ite_true, ite_false] at h
  simp [headG] at ga gb
  obtain ⟨e1, h⟩ := enc_inj (wa.from_ (by simp)) (wb.from_ (by simp)) h
  obtain ⟨e2, h⟩ := enc_inj wa.born wb.born h
  obtain ⟨e3, h⟩ := ints_inj wa.known wb.known (by show known1.length = known2.length; omega) h
  replace h := congrArg (· ++ ([] : List UInt8)) h
  try simp only [List.append_assoc] at h
  obtain ⟨e4, h⟩ := enc_inj wa.nonce wb.nonce h
  simp only [proj, has, lets, Ms.mk.injEq, reduceIte, Int.reduceEq] at pa pb
  simp at pa pb
  (try simp_all) <;> (try omega)
set_option maxHeartbeats 4000000 in
theorem inj10t {r : Int} (from_1 born1 from_2 born2 : Int) (known1 known2 : List Int) (view1 last1 op1 commit1 client1 number1 nonce1 view2 last2 op2 commit2 client2 number2 nonce2 : Int) (text1 text2 : List UInt8) (base1 base2 : Int) (state1 state2 : List UInt8) (entries1 entries2 : List Ent)
    (ha : good ⟨10, from_1, born1, known1, view1, last1, op1, commit1, client1, number1, nonce1, text1, true, base1, state1, entries1⟩ r = true) (hb : good ⟨10, from_2, born2, known2, view2, last2, op2, commit2, client2, number2, nonce2, text2, true, base2, state2, entries2⟩ r = true) (h : restB ⟨10, from_1, born1, known1, view1, last1, op1, commit1, client1, number1, nonce1, text1, true, base1, state1, entries1⟩ = restB ⟨10, from_2, born2, known2, view2, last2, op2, commit2, client2, number2, nonce2, text2, true, base2, state2, entries2⟩) : (⟨10, from_1, born1, known1, view1, last1, op1, commit1, client1, number1, nonce1, text1, true, base1, state1, entries1⟩ : Ms) = ⟨10, from_2, born2, known2, view2, last2, op2, commit2, client2, number2, nonce2, text2, true, base2, state2, entries2⟩ := by
  obtain ⟨wa, -, -, pa, -, ga, -⟩ := good_parts ha
  obtain ⟨wb, -, -, pb, -, gb, -⟩ := good_parts hb
  clear ha hb
  simp only [restB, headB, lets, lv, lo, lc, lx, lf, lT, tailB, List.flatMap_cons, List.flatMap_nil, List.append_nil, List.append_assoc, Int.reduceEq, ite_true, ite_false] at h
  simp [headG] at ga gb
  obtain ⟨e1, h⟩ := enc_inj (wa.from_ (by simp)) (wb.from_ (by simp)) h
  obtain ⟨e2, h⟩ := enc_inj wa.born wb.born h
  obtain ⟨e3, h⟩ := ints_inj wa.known wb.known (by show known1.length = known2.length; omega) h
  replace h := congrArg (· ++ ([] : List UInt8)) h
  try simp only [List.append_assoc] at h
  obtain ⟨e4, h⟩ := enc_inj wa.view wb.view h
  obtain ⟨e5, h⟩ := enc_inj wa.nonce wb.nonce h
  obtain ⟨e6, h⟩ := flag_inj h
  obtain ⟨e7, h⟩ := enc_inj wa.op wb.op h
  obtain ⟨e8, h⟩ := enc_inj wa.commit wb.commit h
  obtain ⟨e9, h⟩ := enc_inj wa.base wb.base h
  obtain ⟨e10, h⟩ := text_inj wa.state wb.state h
  obtain ⟨hl, h⟩ := len_inj wa.elen wb.elen h
  obtain ⟨e11, h⟩ := ents_inj wa.ents wb.ents hl h
  simp only [proj, has, lets, Ms.mk.injEq, reduceIte, Int.reduceEq] at pa pb
  simp at pa pb
  (try simp_all) <;> (try omega)
set_option maxHeartbeats 4000000 in
theorem inj10f {r : Int} (from_1 born1 from_2 born2 : Int) (known1 known2 : List Int) (view1 last1 op1 commit1 client1 number1 nonce1 view2 last2 op2 commit2 client2 number2 nonce2 : Int) (text1 text2 : List UInt8) (base1 base2 : Int) (state1 state2 : List UInt8) (entries1 entries2 : List Ent)
    (ha : good ⟨10, from_1, born1, known1, view1, last1, op1, commit1, client1, number1, nonce1, text1, false, base1, state1, entries1⟩ r = true) (hb : good ⟨10, from_2, born2, known2, view2, last2, op2, commit2, client2, number2, nonce2, text2, false, base2, state2, entries2⟩ r = true) (h : restB ⟨10, from_1, born1, known1, view1, last1, op1, commit1, client1, number1, nonce1, text1, false, base1, state1, entries1⟩ = restB ⟨10, from_2, born2, known2, view2, last2, op2, commit2, client2, number2, nonce2, text2, false, base2, state2, entries2⟩) : (⟨10, from_1, born1, known1, view1, last1, op1, commit1, client1, number1, nonce1, text1, false, base1, state1, entries1⟩ : Ms) = ⟨10, from_2, born2, known2, view2, last2, op2, commit2, client2, number2, nonce2, text2, false, base2, state2, entries2⟩ := by
  obtain ⟨wa, -, -, pa, -, ga, -⟩ := good_parts ha
  obtain ⟨wb, -, -, pb, -, gb, -⟩ := good_parts hb
  clear ha hb
  simp only [restB, headB, lets, lv, lx, lf, List.flatMap_cons, List.flatMap_nil, List.append_nil, List.append_assoc, reduceCtorEq, Int.reduceEq, ite_true, ite_false] at h
  simp [headG] at ga gb
  obtain ⟨e1, h⟩ := enc_inj (wa.from_ (by simp)) (wb.from_ (by simp)) h
  obtain ⟨e2, h⟩ := enc_inj wa.born wb.born h
  obtain ⟨e3, h⟩ := ints_inj wa.known wb.known (by show known1.length = known2.length; omega) h
  replace h := congrArg (· ++ ([] : List UInt8)) h
  try simp only [List.append_assoc] at h
  obtain ⟨e4, h⟩ := enc_inj wa.view wb.view h
  obtain ⟨e5, h⟩ := enc_inj wa.nonce wb.nonce h
  obtain ⟨e6, h⟩ := flag_inj h
  simp only [proj, has, lets, Ms.mk.injEq, reduceIte, reduceCtorEq, Int.reduceEq] at pa pb
  simp at pa pb
  (try simp_all) <;> (try omega)
set_option maxHeartbeats 4000000 in
theorem inj10x {r : Int} (from_1 born1 from_2 born2 : Int) (known1 known2 : List Int) (view1 last1 op1 commit1 client1 number1 nonce1 view2 last2 op2 commit2 client2 number2 nonce2 : Int) (text1 text2 : List UInt8) (base1 base2 : Int) (state1 state2 : List UInt8) (entries1 entries2 : List Ent)
    (ha : good ⟨10, from_1, born1, known1, view1, last1, op1, commit1, client1, number1, nonce1, text1, false, base1, state1, entries1⟩ r = true) (hb : good ⟨10, from_2, born2, known2, view2, last2, op2, commit2, client2, number2, nonce2, text2, true, base2, state2, entries2⟩ r = true) (h : restB ⟨10, from_1, born1, known1, view1, last1, op1, commit1, client1, number1, nonce1, text1, false, base1, state1, entries1⟩ = restB ⟨10, from_2, born2, known2, view2, last2, op2, commit2, client2, number2, nonce2, text2, true, base2, state2, entries2⟩) : False := by
  obtain ⟨wa, -, -, pa, -, ga, -⟩ := good_parts ha
  obtain ⟨wb, -, -, pb, -, gb, -⟩ := good_parts hb
  clear ha hb
  simp only [restB, headB, lets, lv, lo, lc, lx, lf, lT, tailB, List.flatMap_cons, List.flatMap_nil, List.append_nil, List.append_assoc, reduceCtorEq, Int.reduceEq, ite_true, ite_false] at h
  simp [headG] at ga gb
  obtain ⟨e1, h⟩ := enc_inj (wa.from_ (by simp)) (wb.from_ (by simp)) h
  obtain ⟨e2, h⟩ := enc_inj wa.born wb.born h
  obtain ⟨e3, h⟩ := ints_inj wa.known wb.known (by show known1.length = known2.length; omega) h
  replace h := congrArg (· ++ ([] : List UInt8)) h
  try simp only [List.append_assoc] at h
  obtain ⟨e4, h⟩ := enc_inj wa.view wb.view h
  obtain ⟨e5, h⟩ := enc_inj wa.nonce wb.nonce h
  obtain ⟨e6, h⟩ := flag_inj h
  cases e6
set_option maxHeartbeats 4000000 in
theorem inj11 {r : Int} (from_1 born1 from_2 born2 : Int) (known1 known2 : List Int) (view1 last1 op1 commit1 client1 number1 nonce1 view2 last2 op2 commit2 client2 number2 nonce2 : Int) (text1 text2 : List UInt8) (full1 full2 : Bool) (base1 base2 : Int) (state1 state2 : List UInt8) (entries1 entries2 : List Ent)
    (ha : good ⟨11, from_1, born1, known1, view1, last1, op1, commit1, client1, number1, nonce1, text1, full1, base1, state1, entries1⟩ r = true) (hb : good ⟨11, from_2, born2, known2, view2, last2, op2, commit2, client2, number2, nonce2, text2, full2, base2, state2, entries2⟩ r = true) (h : restB ⟨11, from_1, born1, known1, view1, last1, op1, commit1, client1, number1, nonce1, text1, full1, base1, state1, entries1⟩ = restB ⟨11, from_2, born2, known2, view2, last2, op2, commit2, client2, number2, nonce2, text2, full2, base2, state2, entries2⟩) : (⟨11, from_1, born1, known1, view1, last1, op1, commit1, client1, number1, nonce1, text1, full1, base1, state1, entries1⟩ : Ms) = ⟨11, from_2, born2, known2, view2, last2, op2, commit2, client2, number2, nonce2, text2, full2, base2, state2, entries2⟩ := by
  obtain ⟨wa, -, -, pa, -, ga, -⟩ := good_parts ha
  obtain ⟨wb, -, -, pb, -, gb, -⟩ := good_parts hb
  clear ha hb
  simp only [restB, headB, lets, lv, lo, List.flatMap_cons, List.flatMap_nil, List.append_nil, List.append_assoc, Int.reduceEq, ite_true, ite_false] at h
  simp [headG] at ga gb
  obtain ⟨e1, h⟩ := enc_inj (wa.from_ (by simp)) (wb.from_ (by simp)) h
  obtain ⟨e2, h⟩ := enc_inj wa.born wb.born h
  obtain ⟨e3, h⟩ := ints_inj wa.known wb.known (by show known1.length = known2.length; omega) h
  replace h := congrArg (· ++ ([] : List UInt8)) h
  try simp only [List.append_assoc] at h
  obtain ⟨e4, h⟩ := enc_inj wa.view wb.view h
  obtain ⟨e5, h⟩ := enc_inj wa.op wb.op h
  simp only [proj, has, lets, Ms.mk.injEq, reduceIte, Int.reduceEq] at pa pb
  simp at pa pb
  (try simp_all) <;> (try omega)
set_option maxHeartbeats 4000000 in
theorem inj12 {r : Int} (from_1 born1 from_2 born2 : Int) (known1 known2 : List Int) (view1 last1 op1 commit1 client1 number1 nonce1 view2 last2 op2 commit2 client2 number2 nonce2 : Int) (text1 text2 : List UInt8) (full1 full2 : Bool) (base1 base2 : Int) (state1 state2 : List UInt8) (entries1 entries2 : List Ent)
    (ha : good ⟨12, from_1, born1, known1, view1, last1, op1, commit1, client1, number1, nonce1, text1, full1, base1, state1, entries1⟩ r = true) (hb : good ⟨12, from_2, born2, known2, view2, last2, op2, commit2, client2, number2, nonce2, text2, full2, base2, state2, entries2⟩ r = true) (h : restB ⟨12, from_1, born1, known1, view1, last1, op1, commit1, client1, number1, nonce1, text1, full1, base1, state1, entries1⟩ = restB ⟨12, from_2, born2, known2, view2, last2, op2, commit2, client2, number2, nonce2, text2, full2, base2, state2, entries2⟩) : (⟨12, from_1, born1, known1, view1, last1, op1, commit1, client1, number1, nonce1, text1, full1, base1, state1, entries1⟩ : Ms) = ⟨12, from_2, born2, known2, view2, last2, op2, commit2, client2, number2, nonce2, text2, full2, base2, state2, entries2⟩ := by
  obtain ⟨wa, -, -, pa, -, ga, -⟩ := good_parts ha
  obtain ⟨wb, -, -, pb, -, gb, -⟩ := good_parts hb
  clear ha hb
  simp only [restB, headB, lets, lv, lo, lc, lT, tailB, List.flatMap_cons, List.flatMap_nil, List.append_nil, List.append_assoc, Int.reduceEq, ite_true, ite_false] at h
  simp [headG] at ga gb
  obtain ⟨e1, h⟩ := enc_inj (wa.from_ (by simp)) (wb.from_ (by simp)) h
  obtain ⟨e2, h⟩ := enc_inj wa.born wb.born h
  obtain ⟨e3, h⟩ := ints_inj wa.known wb.known (by show known1.length = known2.length; omega) h
  replace h := congrArg (· ++ ([] : List UInt8)) h
  try simp only [List.append_assoc] at h
  obtain ⟨e4, h⟩ := enc_inj wa.view wb.view h
  obtain ⟨e5, h⟩ := enc_inj wa.op wb.op h
  obtain ⟨e6, h⟩ := enc_inj wa.commit wb.commit h
  obtain ⟨e7, h⟩ := enc_inj wa.base wb.base h
  obtain ⟨e8, h⟩ := text_inj wa.state wb.state h
  obtain ⟨hl, h⟩ := len_inj wa.elen wb.elen h
  obtain ⟨e9, h⟩ := ents_inj wa.ents wb.ents hl h
  simp only [proj, has, lets, Ms.mk.injEq, reduceIte, Int.reduceEq] at pa pb
  simp at pa pb
  (try simp_all) <;> (try omega)
theorem body_inj {a b : Ms} {r : Int} (ha : good a r = true) (hb : good b r = true) (h : body a = body b) : a = b := by
  obtain ⟨-, ka, -⟩ := good_parts ha
  obtain ⟨-, kb, -⟩ := good_parts hb
  unfold body at h
  obtain ⟨hk, h⟩ := enc_inj (kind_num ka) (kind_num kb) h
  have hc := kinds ka
  obtain ⟨kind1, from_1, born1, known1, view1, last1, op1, commit1, client1, number1, nonce1, text1, full1, base1, state1, entries1⟩ := a
  obtain ⟨kind2, from_2, born2, known2, view2, last2, op2, commit2, client2, number2, nonce2, text2, full2, base2, state2, entries2⟩ := b
  dsimp only at hk hc
  subst hk
  rcases hc with rfl | rfl | rfl | rfl | rfl | rfl | rfl | rfl | rfl | rfl | rfl | rfl
  · exact inj1 _ _ _ _ _ _ _ _ _ _ _ _ _ _ _ _ _ _ _ _ _ _ _ _ _ _ _ _ _ _ ha hb h
  · exact inj2 _ _ _ _ _ _ _ _ _ _ _ _ _ _ _ _ _ _ _ _ _ _ _ _ _ _ _ _ _ _ ha hb h
  · exact inj3 _ _ _ _ _ _ _ _ _ _ _ _ _ _ _ _ _ _ _ _ _ _ _ _ _ _ _ _ _ _ ha hb h
  · exact inj4 _ _ _ _ _ _ _ _ _ _ _ _ _ _ _ _ _ _ _ _ _ _ _ _ _ _ _ _ _ _ ha hb h
  · exact inj5 _ _ _ _ _ _ _ _ _ _ _ _ _ _ _ _ _ _ _ _ _ _ _ _ _ _ _ _ _ _ ha hb h
  · exact inj6 _ _ _ _ _ _ _ _ _ _ _ _ _ _ _ _ _ _ _ _ _ _ _ _ _ _ _ _ _ _ ha hb h
  · exact inj7 _ _ _ _ _ _ _ _ _ _ _ _ _ _ _ _ _ _ _ _ _ _ _ _ _ _ _ _ _ _ ha hb h
  · exact inj8 _ _ _ _ _ _ _ _ _ _ _ _ _ _ _ _ _ _ _ _ _ _ _ _ _ _ _ _ _ _ ha hb h
  · exact inj9 _ _ _ _ _ _ _ _ _ _ _ _ _ _ _ _ _ _ _ _ _ _ _ _ _ _ _ _ _ _ ha hb h
  · cases full1 <;> cases full2
    · exact inj10f _ _ _ _ _ _ _ _ _ _ _ _ _ _ _ _ _ _ _ _ _ _ _ _ _ _ _ _ ha hb h
    · exact (inj10x _ _ _ _ _ _ _ _ _ _ _ _ _ _ _ _ _ _ _ _ _ _ _ _ _ _ _ _ ha hb h).elim
    · exact (inj10x _ _ _ _ _ _ _ _ _ _ _ _ _ _ _ _ _ _ _ _ _ _ _ _ _ _ _ _ hb ha h.symm).elim
    · exact inj10t _ _ _ _ _ _ _ _ _ _ _ _ _ _ _ _ _ _ _ _ _ _ _ _ _ _ _ _ ha hb h
  · exact inj11 _ _ _ _ _ _ _ _ _ _ _ _ _ _ _ _ _ _ _ _ _ _ _ _ _ _ _ _ _ _ ha hb h
  · exact inj12 _ _ _ _ _ _ _ _ _ _ _ _ _ _ _ _ _ _ _ _ _ _ _ _ _ _ _ _ _ _ ha hb h
end Go.Proofs.YtlnmefpndgmenaaDoor

namespace Go.Proofs.YtlnmefpndgmenaaDoor
open Go.RowKit
open Msg

theorem quiet_load_mid {P : Program} {ops : Array Oper} {C : World → Prop} {Q : Act → Prop} {o : Oper} {rest : List Oper} {a : Act} (hg : o.guard = none) (ty : TypeId) (x : Operand) (ho : o.op = .load ty x)
    (b q : Nat) (hx : a.eval x = .pointer (some ⟨b, q, none⟩)) (cs : List Value) (d : TypeDesc) (hc : ∀ w, C w → w.rangeAt b q cs)
    (hu : P.underlying ty = some d) (hd : d.isRow = true) (hi : (P.info? ty).map (·.size) = some cs.length)
    (h : wpQuiet P ops C Q rest (a.put o.dst (.agg cs.toArray))) : wpQuiet P ops C Q (o :: rest) a := by
  have hw : Region.wanted o (yielded ops a.tmps) = true := by simp [Region.wanted, hg]
  refine wpQuiet_step fun K hK => ?_
  rw [if_pos hw]
  refine ⟨.agg cs.toArray, fun w hC => ?_, hK _ h⟩
  have hr : (execOp a.eval o).run P w = .ok (.value (.agg cs.toArray)) w := by
    unfold execOp
    simp only [ho, hx, Instr.loadAt, Instr.sureAddr, Sem.run_bind, Sem.run_pure, Result.andThen_ok, run_loadVar_mid w b q ty cs d (hc w hC) hu hd hi]
  unfold Oper.quietAt
  rw [hr]
  exact ⟨rfl, rfl⟩
theorem range_wd {w : World} {b : Nat} {cs : List Value} (h : ∀ j, w.cell? ⟨b, j, none⟩ = cs.toArray[j]?) : ∀ w', (∃ t : Wd w, w' = t.val) → w'.rangeAt b 0 cs := fun w' ⟨t, e⟩ j v hv => by
  subst e
  rw [Nat.zero_add]
  exact Wd.cell ((h j).trans (by simpa using hv)) t
theorem RawK.nox {w w' : World} {m : Ms} {kv ev : Value} (h : RawK w m kv ev) (hf : Frm No w w') : RawK w' m kv ev := ⟨h.rd.no hf, h.text, h.state, h.known, h.ents, h.texts⟩
theorem Lil.smlx {m : Ms} (h : Lil m) : Sml m := ⟨by have := h.known; omega, by have := h.ents; omega, by have := h.text; omega, by have := h.state; omega, fun x hx => by have := h.texts x hx; omega⟩
set_option maxRecDepth 100000 in
set_option maxHeartbeats 8000000 in
theorem msgapart (m1 m2 : Ms) (kv1 ev1 kv2 ev2 : Value) (w : World) (hT : Tab w) (h1 : RawK w m1 kv1 ev1) (h2 : RawK w m2 kv2 ev2) :
    Calls Tryd.prog 5 #[rawV m1 kv1 ev1, rawV m2 kv2 ev2] w fun e w' => e = .returned (.bool true) ∧ Frm No w w' := by
  have HT := hid hT
  have HL1 := hid (fun w1 (hf : Frm No w w1) => large_any m1 kv1 ev1 w1 (h1.nox hf))
  have HL2 := hid (fun w1 (hf : Frm No w w1) => large_any m2 kv2 ev2 w1 (h2.nox hf))
  have HM1 := hid (fun hl w1 (hf : Frm No w w1) => made_any m1 kv1 ev1 w1 (h1.nox hf) hl)
  have HM2 := hid (fun hl w1 (hf : Frm No w w1) => made_any m2 kv2 ev2 w1 (h2.nox hf) hl)
  obtain ⟨kao1, kcp1, rfl⟩ := h1.rd.kr.shape
  obtain ⟨eao1, ecp1, rfl⟩ := h1.rd.er.shape
  obtain ⟨kao2, kcp2, rfl⟩ := h2.rd.kr.shape
  obtain ⟨eao2, ecp2, rfl⟩ := h2.rd.er.shape
  clear h1 h2 hT
  unfold rawV rawC at *
  have hA : Frm No w ((w.alloc (.cells #[.int .i64 m1.kind, .int .i64 m1.from_, .int .i64 m1.born, .int .i64 m1.view, .int .i64 m1.last, .int .i64 m1.op, .int .i64 m1.commit, .int .i64 m1.client, .int .i64 m1.number, .int .i64 m1.nonce, .int .i64 m1.base, .slice kao1 m1.known.length kcp1, .string ⟨m1.text.toArray⟩, .bool m1.full, .string ⟨m1.state.toArray⟩, .slice eao1 m1.entries.length ecp1] 26)).alloc (.cells #[.int .i64 m2.kind, .int .i64 m2.from_, .int .i64 m2.born, .int .i64 m2.view, .int .i64 m2.last, .int .i64 m2.op, .int .i64 m2.commit, .int .i64 m2.client, .int .i64 m2.number, .int .i64 m2.nonce, .int .i64 m2.base, .slice kao2 m2.known.length kcp2, .string ⟨m2.text.toArray⟩, .bool m2.full, .string ⟨m2.state.toArray⟩, .slice eao2 m2.entries.length ecp2] 26)) := ((Frm.refl No w).alloc _).alloc _
  go_enter Tryd.func5, Tryd.ntmps5
  go_upto_region 3 with (go_at_call 7; refine (msgspeaks _ (HT.out.no hA)).mono ?_; rintro e0 w0 ⟨rfl, hf0⟩)
  have x1 := two_box1 hf0
  have x2 := two_box2 hf0
  have hF0 := hA.thenNo hf0
  have hb1 : w.heap.size < w0.heap.size := World.block_lt_of_cell? w0 ⟨w.heap.size, 0, none⟩ (x1 0)
  have hb2 : w.heap.size + 1 < w0.heap.size := World.block_lt_of_cell? w0 ⟨w.heap.size + 1, 0, none⟩ (x2 0)
  clear hA hf0
  generalize w.heap.size = p0 at *
  go_cut [0, 1, 9, 10, 16] from 11 to 15 (fun _ _ _ _ t wq => ∃ b : Bool, t = .bool b ∧ (b = false → Lil m1 ∧ Lil m2) ∧ Frm No w0 wq)
  case first =>
    as_aux_lemma =>
    go_wp2_with (first | (go_at_call 8; refine (HL1.out w0 hF0).mono ?_; rintro e1 w1 ⟨b1, rfl, hbb1, hf1⟩; clear HL1; have y2 := fun j => (hf1.cell (p := ⟨p0 + 1, j, none⟩) hb2 (fun h => h)).trans (x2 j); cases b1) | (go_at_call 8; refine (HL2.out w1 (hF0.thenNo hf1)).mono ?_; rintro e2 w2 ⟨b2, rfl, hbb2, hf2⟩))
    all_goals
      go_meet
      first
        | exact ⟨b2, rfl, fun h => ⟨by first | exact hbb1 trivial | exact hbb1 rfl, by first | exact hbb2 h | exact hbb2⟩, hf1.thenNo hf2⟩
        | exact ⟨_, rfl, fun h => ⟨by first | exact hbb1 trivial | exact hbb1 rfl, by first | exact hbb2 h | exact hbb2⟩, hf1.thenNo hf2⟩
        | exact ⟨true, rfl, fun h => (by cases h), hf1⟩
  case rest =>
    as_aux_lemma =>
    obtain ⟨b, rfl, hb, hf1⟩ := hcut
    have hF1 := hF0.thenNo hf1
    cases b
    · obtain ⟨hl1, hl2⟩ := hb rfl
      have y1 := fun j => (hf1.cell (p := ⟨p0, j, none⟩) hb1 (fun h => h)).trans (x1 j)
      have y2 := fun j => (hf1.cell (p := ⟨p0 + 1, j, none⟩) hb2 (fun h => h)).trans (x2 j)
      have hc2 : p0 + 1 < wc.heap.size := Nat.lt_of_lt_of_le hb2 hf1.size
      clear x1 x2 hb HL1 HL2 hf1 hF0
      have HP1 := hid (fun kv ev w1 (hr : MsR w1 m1 kv ev) (hT : Tab w1) => mput_any m1 kv ev 3 w1 hl1.smlx hr hT)
      have HP2 := hid (fun kv ev w1 (hr : MsR w1 m2 kv ev) (hT : Tab w1) => mput_any m2 kv ev 3 w1 hl2.smlx hr hT)
      have HG1 := hid (fun kv ev w1 (hr : MsR w1 m1 kv ev) => good_any m1 kv ev 3 w1 hl1.smlx hr)
      have HG2 := hid (fun kv ev w1 (hr : MsR w1 m2 kv ev) => good_any m2 kv ev 3 w1 hl2.smlx hr)
      have HSa := hid (fun ka ea kb eb w1 (ha : MsR w1 m1 ka ea) (hb : MsR w1 m2 kb eb) => refsame_any m1 m2 ka ea kb eb w1 ha hb (by have := hl1.known; omega) (by have := hl1.ents; omega))
      unfold msV msC at *
      go_upto_region 6 with (go_at_call 9; refine (HM1.out hl1 wc hF1).mono ?_; rintro e3 w3 ⟨k1, v1, v2, rfl, hm1, hm2, hf3⟩; obtain ⟨ka1, kc1, rfl⟩ := hm1.kr.shape; obtain ⟨ea1, ec1, rfl⟩ := hm1.er.shape; obtain ⟨eb1, ed1, rfl⟩ := hm2.er.shape)
      have hF5 : Frm No w ((w3.alloc (.cells #[.int .i64 m1.kind, .int .i64 m1.from_, .int .i64 m1.born, .slice ka1 m1.known.length kc1, .int .i64 m1.view, .int .i64 m1.last, .int .i64 m1.op, .int .i64 m1.commit, .int .i64 m1.client, .int .i64 m1.number, .int .i64 m1.nonce, .string ⟨m1.text.toArray⟩, .bool m1.full, .int .i64 m1.base, .string ⟨m1.state.toArray⟩, .slice ea1 m1.entries.length ec1] 31)).alloc (.cells #[.int .i64 m1.kind, .int .i64 m1.from_, .int .i64 m1.born, .slice kao1 m1.known.length kcp1, .int .i64 m1.view, .int .i64 m1.last, .int .i64 m1.op, .int .i64 m1.commit, .int .i64 m1.client, .int .i64 m1.number, .int .i64 m1.nonce, .string ⟨m1.text.toArray⟩, .bool m1.full, .int .i64 m1.base, .string ⟨m1.state.toArray⟩, .slice eb1 m1.entries.length ed1] 34)) := ((hF1.thenNo hf3).alloc _).alloc _
      have hmA : MsR ((w3.alloc (.cells #[.int .i64 m1.kind, .int .i64 m1.from_, .int .i64 m1.born, .slice ka1 m1.known.length kc1, .int .i64 m1.view, .int .i64 m1.last, .int .i64 m1.op, .int .i64 m1.commit, .int .i64 m1.client, .int .i64 m1.number, .int .i64 m1.nonce, .string ⟨m1.text.toArray⟩, .bool m1.full, .int .i64 m1.base, .string ⟨m1.state.toArray⟩, .slice ea1 m1.entries.length ec1] 31)).alloc (.cells #[.int .i64 m1.kind, .int .i64 m1.from_, .int .i64 m1.born, .slice kao1 m1.known.length kcp1, .int .i64 m1.view, .int .i64 m1.last, .int .i64 m1.op, .int .i64 m1.commit, .int .i64 m1.client, .int .i64 m1.number, .int .i64 m1.nonce, .string ⟨m1.text.toArray⟩, .bool m1.full, .int .i64 m1.base, .string ⟨m1.state.toArray⟩, .slice eb1 m1.entries.length ed1] 34)) m1 (.slice ka1 m1.known.length kc1) (.slice ea1 m1.entries.length ec1) := hm1.no (((Frm.refl No w3).alloc _).alloc _)
      have hmB : MsR ((w3.alloc (.cells #[.int .i64 m1.kind, .int .i64 m1.from_, .int .i64 m1.born, .slice ka1 m1.known.length kc1, .int .i64 m1.view, .int .i64 m1.last, .int .i64 m1.op, .int .i64 m1.commit, .int .i64 m1.client, .int .i64 m1.number, .int .i64 m1.nonce, .string ⟨m1.text.toArray⟩, .bool m1.full, .int .i64 m1.base, .string ⟨m1.state.toArray⟩, .slice ea1 m1.entries.length ec1] 31)).alloc (.cells #[.int .i64 m1.kind, .int .i64 m1.from_, .int .i64 m1.born, .slice kao1 m1.known.length kcp1, .int .i64 m1.view, .int .i64 m1.last, .int .i64 m1.op, .int .i64 m1.commit, .int .i64 m1.client, .int .i64 m1.number, .int .i64 m1.nonce, .string ⟨m1.text.toArray⟩, .bool m1.full, .int .i64 m1.base, .string ⟨m1.state.toArray⟩, .slice eb1 m1.entries.length ed1] 34)) m1 (.slice kao1 m1.known.length kcp1) (.slice eb1 m1.entries.length ed1) := hm2.no (((Frm.refl No w3).alloc _).alloc _)
      have xA := two_box1 (Frm.refl No ((w3.alloc (.cells #[.int .i64 m1.kind, .int .i64 m1.from_, .int .i64 m1.born, .slice ka1 m1.known.length kc1, .int .i64 m1.view, .int .i64 m1.last, .int .i64 m1.op, .int .i64 m1.commit, .int .i64 m1.client, .int .i64 m1.number, .int .i64 m1.nonce, .string ⟨m1.text.toArray⟩, .bool m1.full, .int .i64 m1.base, .string ⟨m1.state.toArray⟩, .slice ea1 m1.entries.length ec1] 31)).alloc (.cells #[.int .i64 m1.kind, .int .i64 m1.from_, .int .i64 m1.born, .slice kao1 m1.known.length kcp1, .int .i64 m1.view, .int .i64 m1.last, .int .i64 m1.op, .int .i64 m1.commit, .int .i64 m1.client, .int .i64 m1.number, .int .i64 m1.nonce, .string ⟨m1.text.toArray⟩, .bool m1.full, .int .i64 m1.base, .string ⟨m1.state.toArray⟩, .slice eb1 m1.entries.length ed1] 34)))
      have xB := two_box2 (Frm.refl No ((w3.alloc (.cells #[.int .i64 m1.kind, .int .i64 m1.from_, .int .i64 m1.born, .slice ka1 m1.known.length kc1, .int .i64 m1.view, .int .i64 m1.last, .int .i64 m1.op, .int .i64 m1.commit, .int .i64 m1.client, .int .i64 m1.number, .int .i64 m1.nonce, .string ⟨m1.text.toArray⟩, .bool m1.full, .int .i64 m1.base, .string ⟨m1.state.toArray⟩, .slice ea1 m1.entries.length ec1] 31)).alloc (.cells #[.int .i64 m1.kind, .int .i64 m1.from_, .int .i64 m1.born, .slice kao1 m1.known.length kcp1, .int .i64 m1.view, .int .i64 m1.last, .int .i64 m1.op, .int .i64 m1.commit, .int .i64 m1.client, .int .i64 m1.number, .int .i64 m1.nonce, .string ⟨m1.text.toArray⟩, .bool m1.full, .int .i64 m1.base, .string ⟨m1.state.toArray⟩, .slice eb1 m1.entries.length ed1] 34)))
      have z2 := fun j => ((hf3.thenNo (((Frm.refl No w3).alloc (.cells #[.int .i64 m1.kind, .int .i64 m1.from_, .int .i64 m1.born, .slice ka1 m1.known.length kc1, .int .i64 m1.view, .int .i64 m1.last, .int .i64 m1.op, .int .i64 m1.commit, .int .i64 m1.client, .int .i64 m1.number, .int .i64 m1.nonce, .string ⟨m1.text.toArray⟩, .bool m1.full, .int .i64 m1.base, .string ⟨m1.state.toArray⟩, .slice ea1 m1.entries.length ec1] 31)).alloc (.cells #[.int .i64 m1.kind, .int .i64 m1.from_, .int .i64 m1.born, .slice kao1 m1.known.length kcp1, .int .i64 m1.view, .int .i64 m1.last, .int .i64 m1.op, .int .i64 m1.commit, .int .i64 m1.client, .int .i64 m1.number, .int .i64 m1.nonce, .string ⟨m1.text.toArray⟩, .bool m1.full, .int .i64 m1.base, .string ⟨m1.state.toArray⟩, .slice eb1 m1.entries.length ed1] 34))).cell (p := ⟨p0 + 1, j, none⟩) hc2 (fun h => h)).trans (y2 j)
      obtain ⟨W5, hWe⟩ : ∃ W, W = ((w3.alloc (.cells #[.int .i64 m1.kind, .int .i64 m1.from_, .int .i64 m1.born, .slice ka1 m1.known.length kc1, .int .i64 m1.view, .int .i64 m1.last, .int .i64 m1.op, .int .i64 m1.commit, .int .i64 m1.client, .int .i64 m1.number, .int .i64 m1.nonce, .string ⟨m1.text.toArray⟩, .bool m1.full, .int .i64 m1.base, .string ⟨m1.state.toArray⟩, .slice ea1 m1.entries.length ec1] 31)).alloc (.cells #[.int .i64 m1.kind, .int .i64 m1.from_, .int .i64 m1.born, .slice kao1 m1.known.length kcp1, .int .i64 m1.view, .int .i64 m1.last, .int .i64 m1.op, .int .i64 m1.commit, .int .i64 m1.client, .int .i64 m1.number, .int .i64 m1.nonce, .string ⟨m1.text.toArray⟩, .bool m1.full, .int .i64 m1.base, .string ⟨m1.state.toArray⟩, .slice eb1 m1.entries.length ed1] 34)) := ⟨_, rfl⟩
      rw [← hWe] at hF5 hmA hmB xA xB z2 ⊢
      clear hWe hm1 hm2 hf3 y1 y2 hc2 hF1 HM1
      have hA5 : w3.heap.size < W5.heap.size := World.block_lt_of_cell? W5 ⟨w3.heap.size, 0, none⟩ (xA 0)
      have hB5 : w3.heap.size + 1 < W5.heap.size := World.block_lt_of_cell? W5 ⟨w3.heap.size + 1, 0, none⟩ (xB 0)
      generalize w3.heap.size = p5 at *
      as_aux_lemma =>
      go_upto_region 7 with (go_at_call 9; refine (HM2.out hl2 W5 hF5).mono ?_; rintro e6 w6 ⟨k1, v1, v2, rfl, hm1, hm2, hf6⟩; obtain ⟨ka2, kc2, rfl⟩ := hm1.kr.shape; obtain ⟨ea2, ec2, rfl⟩ := hm1.er.shape; obtain ⟨eb2, ed2, rfl⟩ := hm2.er.shape)
      have hF67 : Frm No W5 ((w6.alloc (.cells #[.int .i64 m2.kind, .int .i64 m2.from_, .int .i64 m2.born, .slice ka2 m2.known.length kc2, .int .i64 m2.view, .int .i64 m2.last, .int .i64 m2.op, .int .i64 m2.commit, .int .i64 m2.client, .int .i64 m2.number, .int .i64 m2.nonce, .string ⟨m2.text.toArray⟩, .bool m2.full, .int .i64 m2.base, .string ⟨m2.state.toArray⟩, .slice ea2 m2.entries.length ec2] 31)).alloc (.cells #[.int .i64 m2.kind, .int .i64 m2.from_, .int .i64 m2.born, .slice kao2 m2.known.length kcp2, .int .i64 m2.view, .int .i64 m2.last, .int .i64 m2.op, .int .i64 m2.commit, .int .i64 m2.client, .int .i64 m2.number, .int .i64 m2.nonce, .string ⟨m2.text.toArray⟩, .bool m2.full, .int .i64 m2.base, .string ⟨m2.state.toArray⟩, .slice eb2 m2.entries.length ed2] 34)) := (hf6.alloc _).alloc _
      have hmC : MsR ((w6.alloc (.cells #[.int .i64 m2.kind, .int .i64 m2.from_, .int .i64 m2.born, .slice ka2 m2.known.length kc2, .int .i64 m2.view, .int .i64 m2.last, .int .i64 m2.op, .int .i64 m2.commit, .int .i64 m2.client, .int .i64 m2.number, .int .i64 m2.nonce, .string ⟨m2.text.toArray⟩, .bool m2.full, .int .i64 m2.base, .string ⟨m2.state.toArray⟩, .slice ea2 m2.entries.length ec2] 31)).alloc (.cells #[.int .i64 m2.kind, .int .i64 m2.from_, .int .i64 m2.born, .slice kao2 m2.known.length kcp2, .int .i64 m2.view, .int .i64 m2.last, .int .i64 m2.op, .int .i64 m2.commit, .int .i64 m2.client, .int .i64 m2.number, .int .i64 m2.nonce, .string ⟨m2.text.toArray⟩, .bool m2.full, .int .i64 m2.base, .string ⟨m2.state.toArray⟩, .slice eb2 m2.entries.length ed2] 34)) m2 (.slice ka2 m2.known.length kc2) (.slice ea2 m2.entries.length ec2) := hm1.no (((Frm.refl No w6).alloc _).alloc _)
      have hmD : MsR ((w6.alloc (.cells #[.int .i64 m2.kind, .int .i64 m2.from_, .int .i64 m2.born, .slice ka2 m2.known.length kc2, .int .i64 m2.view, .int .i64 m2.last, .int .i64 m2.op, .int .i64 m2.commit, .int .i64 m2.client, .int .i64 m2.number, .int .i64 m2.nonce, .string ⟨m2.text.toArray⟩, .bool m2.full, .int .i64 m2.base, .string ⟨m2.state.toArray⟩, .slice ea2 m2.entries.length ec2] 31)).alloc (.cells #[.int .i64 m2.kind, .int .i64 m2.from_, .int .i64 m2.born, .slice kao2 m2.known.length kcp2, .int .i64 m2.view, .int .i64 m2.last, .int .i64 m2.op, .int .i64 m2.commit, .int .i64 m2.client, .int .i64 m2.number, .int .i64 m2.nonce, .string ⟨m2.text.toArray⟩, .bool m2.full, .int .i64 m2.base, .string ⟨m2.state.toArray⟩, .slice eb2 m2.entries.length ed2] 34)) m2 (.slice kao2 m2.known.length kcp2) (.slice eb2 m2.entries.length ed2) := hm2.no (((Frm.refl No w6).alloc _).alloc _)
      have xC := two_box1 (Frm.refl No ((w6.alloc (.cells #[.int .i64 m2.kind, .int .i64 m2.from_, .int .i64 m2.born, .slice ka2 m2.known.length kc2, .int .i64 m2.view, .int .i64 m2.last, .int .i64 m2.op, .int .i64 m2.commit, .int .i64 m2.client, .int .i64 m2.number, .int .i64 m2.nonce, .string ⟨m2.text.toArray⟩, .bool m2.full, .int .i64 m2.base, .string ⟨m2.state.toArray⟩, .slice ea2 m2.entries.length ec2] 31)).alloc (.cells #[.int .i64 m2.kind, .int .i64 m2.from_, .int .i64 m2.born, .slice kao2 m2.known.length kcp2, .int .i64 m2.view, .int .i64 m2.last, .int .i64 m2.op, .int .i64 m2.commit, .int .i64 m2.client, .int .i64 m2.number, .int .i64 m2.nonce, .string ⟨m2.text.toArray⟩, .bool m2.full, .int .i64 m2.base, .string ⟨m2.state.toArray⟩, .slice eb2 m2.entries.length ed2] 34)))
      have xD := two_box2 (Frm.refl No ((w6.alloc (.cells #[.int .i64 m2.kind, .int .i64 m2.from_, .int .i64 m2.born, .slice ka2 m2.known.length kc2, .int .i64 m2.view, .int .i64 m2.last, .int .i64 m2.op, .int .i64 m2.commit, .int .i64 m2.client, .int .i64 m2.number, .int .i64 m2.nonce, .string ⟨m2.text.toArray⟩, .bool m2.full, .int .i64 m2.base, .string ⟨m2.state.toArray⟩, .slice ea2 m2.entries.length ec2] 31)).alloc (.cells #[.int .i64 m2.kind, .int .i64 m2.from_, .int .i64 m2.born, .slice kao2 m2.known.length kcp2, .int .i64 m2.view, .int .i64 m2.last, .int .i64 m2.op, .int .i64 m2.commit, .int .i64 m2.client, .int .i64 m2.number, .int .i64 m2.nonce, .string ⟨m2.text.toArray⟩, .bool m2.full, .int .i64 m2.base, .string ⟨m2.state.toArray⟩, .slice eb2 m2.entries.length ed2] 34)))
      obtain ⟨W7, hWe⟩ : ∃ W, W = ((w6.alloc (.cells #[.int .i64 m2.kind, .int .i64 m2.from_, .int .i64 m2.born, .slice ka2 m2.known.length kc2, .int .i64 m2.view, .int .i64 m2.last, .int .i64 m2.op, .int .i64 m2.commit, .int .i64 m2.client, .int .i64 m2.number, .int .i64 m2.nonce, .string ⟨m2.text.toArray⟩, .bool m2.full, .int .i64 m2.base, .string ⟨m2.state.toArray⟩, .slice ea2 m2.entries.length ec2] 31)).alloc (.cells #[.int .i64 m2.kind, .int .i64 m2.from_, .int .i64 m2.born, .slice kao2 m2.known.length kcp2, .int .i64 m2.view, .int .i64 m2.last, .int .i64 m2.op, .int .i64 m2.commit, .int .i64 m2.client, .int .i64 m2.number, .int .i64 m2.nonce, .string ⟨m2.text.toArray⟩, .bool m2.full, .int .i64 m2.base, .string ⟨m2.state.toArray⟩, .slice eb2 m2.entries.length ed2] 34)) := ⟨_, rfl⟩
      rw [← hWe] at hF67 hmC hmD xC xD ⊢
      clear hWe hm1 hm2 hf6 z2 HM2
      have hF7 := hF5.thenNo hF67
      have cA := fun j => (hF67.cell (p := ⟨p5, j, none⟩) hA5 (fun h => h)).trans (xA j)
      have cB := fun j => (hF67.cell (p := ⟨p5 + 1, j, none⟩) hB5 (fun h => h)).trans (xB j)
      have hmA := hmA.no hF67
      have hmB := hmB.no hF67
      have hC7 : w6.heap.size < W7.heap.size := World.block_lt_of_cell? W7 ⟨w6.heap.size, 0, none⟩ (xC 0)
      have hD7 : w6.heap.size + 1 < W7.heap.size := World.block_lt_of_cell? W7 ⟨w6.heap.size + 1, 0, none⟩ (xD 0)
      have hA7 := Nat.lt_of_lt_of_le hA5 hF67.size
      have hB7 := Nat.lt_of_lt_of_le hB5 hF67.size
      clear xA xB hA5 hB5 hF67 hF5
      generalize w6.heap.size = p7 at *
      as_aux_lemma =>
      go_cut [0, 1, 9, 10, 11, 12, 13, 14, 15, 16, 17, 18, 19, 20, 21, 22, 23, 24, 25, 26, 34] from 27 to 33 (fun _ _ _ _ _ _ _ _ _ _ _ _ _ _ _ _ _ _ _ _ t wq => t = .bool (!(good m1 3 && good m2 3)) ∧ Frm No W7 wq)
      case first =>
        as_aux_lemma =>
        clear HSa HP1 HP2 cB xD hmB hmD
        generalize good m1 3 = g1 at *
        generalize good m2 3 = g2 at *
        cases g1
        · go_wp2_with (go_at_call 12; refine (HG1.out _ _ W7 hmA).mono ?_; rintro e8 w8 ⟨rfl, hf8⟩)
          go_meet
          exact ⟨rfl, hf8⟩
        · go_wp2_with (first | (go_at_call 12; refine (HG1.out _ _ W7 hmA).mono ?_; rintro e8 w8 ⟨rfl, hf8⟩; clear HG1; have xC8 := fun j => (hf8.cell (p := ⟨p7, j, none⟩) hC7 (fun h => h)).trans (xC j)) | (go_at_call 12; refine (HG2.out _ _ w8 (hmC.no hf8)).mono ?_; rintro e9 w9 ⟨rfl, hf9⟩))
          go_meet
          exact ⟨rfl, hf8.thenNo hf9⟩
      case rest =>
        as_aux_lemma =>
        obtain ⟨rfl, hf8⟩ := hcut
        clear HG1 HG2
        have hF8 := hF7.thenNo hf8
        cases hg : (good m1 3 && good m2 3)
        · go_wp2_with fail
          go_ret
          exact ⟨rfl, hF8⟩
        · obtain ⟨hg1, hg2⟩ : good m1 3 = true ∧ good m2 3 = true := by simpa using hg
          have hp1 : Msg.put m1 3 = Frl.wrap (body m1) := by rw [Msg.put, hg1, if_pos rfl]
          have hp2 : Msg.put m2 3 = Frl.wrap (body m2) := by rw [Msg.put, hg2, if_pos rfl]
          have hiff : (Frl.wrap (body m1) == Frl.wrap (body m2)) = decide (m1 = m2) := by
            rw [Bool.eq_iff_iff, beq_iff_eq, decide_eq_true_eq]
            exact ⟨fun h => body_inj hg1 hg2 (Frl.wrap_inj (body_len hg1) (body_len hg2) h), fun h => by rw [h]⟩
          rw [hp1] at HP1
          rw [hp2] at HP2
          have dA := fun j => (hf8.cell (p := ⟨p5, j, none⟩) hA7 (fun h => h)).trans (cA j)
          have dB := fun j => (hf8.cell (p := ⟨p5 + 1, j, none⟩) hB7 (fun h => h)).trans (cB j)
          have dC := fun j => (hf8.cell (p := ⟨p7, j, none⟩) hC7 (fun h => h)).trans (xC j)
          have dD := fun j => (hf8.cell (p := ⟨p7 + 1, j, none⟩) hD7 (fun h => h)).trans (xD j)
          have RA := range_wd dA
          have RB := range_wd dB
          have RC := range_wd dC
          have RD := range_wd dD
          have HmA := hid (hmA.no hf8)
          have HmB := hid (hmB.no hf8)
          have HmC := hid (hmC.no hf8)
          have HmD := hid (hmD.no hf8)
          have HT8 := hid (HT.out.no hF8)
          clear dA dB dC dD cA cB xC xD hmA hmB hmC hmD hp1 hp2 hg hg1 hg2 hf8
          generalize Frl.wrap (body m1) = F1 at *
          generalize Frl.wrap (body m2) = F2 at *
          generalize decide (m1 = m2) = q at *
          have hq : (F1 == F2) = q := hiff
          clear hiff
          rw [Bool.not_true]
          go_upto_region 9 with fail
          refine wp_region_frm (by kernel_rfl) (by kernel_rfl) ?_
          refine quiet_load_mid rfl 31 (.tmp 5) rfl p5 0 (by rfl) _ _ RA Tryd.underlying31 (by rfl) (size_a' rfl) ?_
          (try simp only [Act.put, List.setIfInBounds_toArray, List.set_cons_zero, List.set_cons_succ])
          go_big_quiet_step (exact Calls.wd (HP1.out _ _ _ (HmA.out.no (Wd.frm _)) (HT8.out.no (Wd.frm _))))
          refine quiet_load_mid rfl 31 (.tmp 7) rfl p7 0 (by rfl) _ _ RC Tryd.underlying31 (by rfl) (size_a' rfl) ?_
          (try simp only [Act.put, List.setIfInBounds_toArray, List.set_cons_zero, List.set_cons_succ])
          go_big_quiet_step (exact Calls.wd (HP2.out _ _ _ (HmC.out.no (Wd.frm _)) (HT8.out.no (Wd.frm _))))
          go_big_quiet_step (fail)
          refine quiet_load_mid rfl 34 (.tmp 6) rfl (p5 + 1) 0 (by rfl) _ _ RB Tryd.underlying34 (by rfl) (size_b' rfl) ?_
          (try simp only [Act.put, List.setIfInBounds_toArray, List.set_cons_zero, List.set_cons_succ])
          refine quiet_load_mid rfl 34 (.tmp 8) rfl (p7 + 1) 0 (by rfl) _ _ RD Tryd.underlying34 (by rfl) (size_b' rfl) ?_
          (try simp only [Act.put, List.setIfInBounds_toArray, List.set_cons_zero, List.set_cons_succ])
          go_big_quiet_step (exact Calls.wd (HSa.out _ _ _ _ _ (HmB.out.no (Wd.frm _)) (HmD.out.no (Wd.frm _))))
          go_big_quiet_step (fail)
          go_big_quiet_step (fail)
          refine wpQuiet_nil ?_
          intro w9 hf9
          go_wp2_with fail
          go_ret
          exact ⟨by simp, hF8.thenNo hf9⟩
    · go_wp2_with fail
      go_ret
      exact ⟨rfl, hF1⟩
theorem msgapart_x (x y : Ms × Value × Value) (w : World) (hT : Tab w) (h1 : RawK w x.1 x.2.1 x.2.2) (h2 : RawK w y.1 y.2.1 y.2.2) :
    Calls Tryd.prog 5 #[rawV x.1 x.2.1 x.2.2, rawV y.1 y.2.1 y.2.2] w fun e w' => e = .returned (.bool true) ∧ Frm No w w' := msgapart x.1 y.1 x.2.1 x.2.2 y.2.1 y.2.2 w hT h1 h2
end Go.Proofs.YtlnmefpndgmenaaDoor
