/- The message of a good message's frame. -/
import Derived.Test.YtaejcejfpcjifaaDoorMsgG9
namespace Go.Proofs.YtaejcejfpcjifaaDoor
open Go.RowKit
open Msg

theorem text_len (s : List UInt8) : (Oct.text s).length ≤ s.length + 8 := by
  unfold Oct.text
  have := Oct.enc_le s.length
  split
  · simp
  · simp; omega
theorem entsB_len : ∀ (es : List Ent), es.all entG = true → (entsB es).length ≤ 8216 * es.length
  | [], _ => by simp [entsB]
  | x :: es, h => by
    simp only [List.all_cons, Bool.and_eq_true] at h
    have h1 := entsB_len es h.2
    have h2 := (ent_parts h.1).2.2
    have h3 := text_len x.text
    have h4 := Oct.enc_le x.client
    have h5 := Oct.enc_le x.number
    have e : entsB (x :: es) = (Oct.enc x.client ++ Oct.enc x.number ++ Oct.text x.text) ++ entsB es := rfl
    rw [e]
    simp only [List.length_append, List.length_cons]
    omega
set_option maxHeartbeats 4000000 in
theorem body_len {m : Ms} {r : Int} (h : good m r = true) : (body m).length ≤ 1048576 := by
  obtain ⟨hW, hK, -, -, -, -, -, hl, he, -⟩ := good_parts h
  have hk := kinds hK
  have k7 := hW.klen
  have e64 := hW.elen
  simp only [lens, Bool.and_eq_true, decide_eq_true_eq] at hl
  have h1 := entsB_len m.entries he
  have h2 := text_len m.text
  have h3 := text_len m.state
  have a0 := Oct.enc_le m.kind
  have a1 := Oct.enc_le m.from_
  have a2 := Oct.enc_le m.born
  have a3 := Oct.ints_le m.known
  have a4 := Oct.enc_le m.view
  have a5 := Oct.enc_le m.last
  have a6 := Oct.enc_le m.op
  have a7 := Oct.enc_le m.commit
  have a8 := Oct.enc_le m.client
  have a9 := Oct.enc_le m.number
  have a10 := Oct.enc_le m.nonce
  have a11 := Oct.enc_le m.base
  have a12 := Oct.enc_le m.entries.length
  have a13 : (Oct.flag m.full).length ≤ 1 := by cases m.full <;> exact Nat.le_refl _
  have hh : (headB m).length ≤ 100 := by
    unfold headB
    split
    · simp
    · simp only [List.length_append]; omega
  have ho := hW.one
  have ht : (tailB m).length ≤ 700000 := by
    unfold tailB
    simp only [List.length_append]
    omega
  have hb : (letB m 101).length ≤ 10000 := by
    show (match m.entries with | [] => [] | x :: _ => entB x : List UInt8).length ≤ 10000
    cases hes : m.entries with
    | nil => simp
    | cons x es =>
      rw [hes] at he
      simp only [List.all_cons, Bool.and_eq_true] at he
      have := entsB_len [x] (by simp [he.1])
      simpa [entsB] using Nat.le_trans this (by simp)
  have b1 : (letB m 118).length ≤ 8 := a4
  have b2 : (letB m 108).length ≤ 8 := a5
  have b3 : (letB m 111).length ≤ 8 := a6
  have b4 : (letB m 99).length ≤ 8 := a7
  have b5 : (letB m 105).length ≤ 8 := a8
  have b6 : (letB m 110).length ≤ 8 := a9
  have b7 : (letB m 116).length ≤ 8200 := by show (Oct.text m.text).length ≤ 8200; omega
  have b8 : (letB m 120).length ≤ 8 := a10
  have b9 : (letB m 102).length ≤ 1 := a13
  have b10 : (letB m 84).length ≤ 700000 := ht
  unfold body restB
  generalize letB m = F at *
  generalize Oct.enc m.kind = E0 at *
  rcases hk with hk | hk | hk | hk | hk | hk | hk | hk | hk | hk | hk | hk <;> (try cases hfl : m.full) <;> simp only [lets, hk, List.length_append, List.flatMap_cons, List.flatMap_nil, List.length_nil, if_pos, reduceCtorEq, ite_false, Int.reduceEq] <;> omega
theorem good_sml {m : Ms} {r : Int} (h : good m r = true) : Sml m := by
  obtain ⟨hW, hK, -, -, -, -, -, hl, he, -⟩ := good_parts h
  have k7 := hW.klen
  have e64 := hW.elen
  simp only [lens, Bool.and_eq_true, decide_eq_true_eq] at hl
  refine ⟨by omega, by omega, by omega, by omega, fun x hx => ?_⟩
  have := (ent_parts (List.all_eq_true.1 he x hx)).2.2
  omega

set_option maxRecDepth 100000 in
set_option maxHeartbeats 8000000 in
theorem mget_good (m : Ms) (r : Int) (w : World) (hg : good m r = true) (hT : Tab w) :
    Calls Tryd.prog 11 #[.string ⟨(Frl.wrap (body m)).toArray⟩, .int .i64 r] w fun e w' => ∃ kv ev, e = .returned (.tuple #[msV m kv ev, .int .i64 0]) ∧ MsR w' m kv ev ∧ Frm No w w' := by
  obtain ⟨hW, hK, h1, hp, hA, hH, -⟩ := good_parts hg
  have hbl := body_len hg
  have hrz : r = 3 ∨ r = 5 ∨ r = 7 := by simpa [amt, or_assoc] using hA
  have hwl := Frl.wrap_length hbl
  have hel := Oct.enc_le (body m).length
  have HAm := hid (amount_any r)
  rw [hA] at HAm
  have HO := hid (fun w1 (hT : Tab w1) => open_any (Frl.wrap (body m)) w1 hT (by omega))
  unfold OpenP at HO
  rw [Frl.open_wrap hbl] at HO
  dsimp only at HO
  have HIO := hid (fun w1 => in_open (body m) w1)
  have HT := hid hT
  have HP := hid (show WOk m ∧ kindG m = true ∧ (m.kind = 1 → m.known = []) ∧ proj m = m from ⟨hW, hK, h1, hp⟩)
  have HGd := hid (fun kv ev w1 (hr : MsR w1 m kv ev) => good_any m kv ev r w1 (good_sml hg) hr)
  rw [hg] at HGd
  have HBD : Hid (body m = Oct.enc m.kind ++ restB m) := hid rfl
  have hkn := kind_num hK
  have hk12 : 1 ≤ m.kind ∧ m.kind ≤ 12 := by simpa [kindG] using hK
  have hlen : m.kind ≠ 1 → (m.known.length : Int) = r := fun hk => by
    simp only [headG, if_neg hk, Bool.and_eq_true, decide_eq_true_eq] at hH
    exact hH.1.1
  clear hT hg hp hA hwl hel hH
  go_enter Tryd.func11, Tryd.ntmps11
  have hU : Frm No w (w.alloc (.cells #[.int .i64 0, .int .i64 0, .int .i64 0, .slice none 0 0, .int .i64 0, .int .i64 0, .int .i64 0, .int .i64 0, .int .i64 0, .int .i64 0, .int .i64 0, .string ⟨#[]⟩, .bool false, .int .i64 0, .string ⟨#[]⟩, .slice none 0 0] 31)) := (Frm.refl No w).alloc _
  have bU := BC.new w [.int .i64 0, .int .i64 0, .int .i64 0, .slice none 0 0, .int .i64 0, .int .i64 0, .int .i64 0, .int .i64 0, .int .i64 0, .int .i64 0, .int .i64 0, .string ⟨#[]⟩, .bool false, .int .i64 0, .string ⟨#[]⟩, .slice none 0 0] 31
  have hUs : (w.alloc (.cells #[.int .i64 0, .int .i64 0, .int .i64 0, .slice none 0 0, .int .i64 0, .int .i64 0, .int .i64 0, .int .i64 0, .int .i64 0, .int .i64 0, .int .i64 0, .string ⟨#[]⟩, .bool false, .int .i64 0, .string ⟨#[]⟩, .slice none 0 0] 31)).heap.size = w.heap.size + 1 := by simp
  obtain ⟨U, hUe⟩ : ∃ U, w.alloc (.cells #[.int .i64 0, .int .i64 0, .int .i64 0, .slice none 0 0, .int .i64 0, .int .i64 0, .int .i64 0, .int .i64 0, .int .i64 0, .int .i64 0, .int .i64 0, .string ⟨#[]⟩, .bool false, .int .i64 0, .string ⟨#[]⟩, .slice none 0 0] 31) = U := ⟨_, rfl⟩
  have bU' : BC U w.heap.size [.int .i64 0, .int .i64 0, .int .i64 0, .slice none 0 0, .int .i64 0, .int .i64 0, .int .i64 0, .int .i64 0, .int .i64 0, .int .i64 0, .int .i64 0, .string ⟨#[]⟩, .bool false, .int .i64 0, .string ⟨#[]⟩, .slice none 0 0] := by rw [← hUe]; exact bU
  rw [hUe] at hU hUs
  clear bU
  go_wp2_with (first | (go_at_call 23; refine (HAm.out _).mono ?_; rintro e1 w1 ⟨rfl, rfl⟩) | (go_at_call 33; refine (HO.out _ (HT.out.no hU)).mono ?_; rintro e2 w2 ⟨rfl, hf2⟩) | (go_at_call 34; refine (HIO.out _).mono ?_; rintro e3 w3 ⟨ib, rfl, hib, hin, hf3⟩))
  have hF3 : Frm No U w3 := hf2.thenNo hf3
  have hz3 := hF3.size
  have hz32 := hf3.size
  have hil := hin.lt
  have hz2 := hf2.size
  obtain ⟨w4, hw4⟩ : ∃ w4, (w3.alloc (.cells #[.slice none 0 0, .bool false, .pointer (some ⟨ib, 0, none⟩), .bool false] 59)).alloc (.cells #[.int .i64 0, .int .i64 0, .int .i64 0, .slice none 0 0, .int .i64 0, .int .i64 0, .int .i64 0, .int .i64 0, .int .i64 0, .int .i64 0, .int .i64 0, .string ⟨#[]⟩, .bool false, .int .i64 0, .string ⟨#[]⟩, .slice none 0 0] 31) = w4 := ⟨_, rfl⟩
  have hF4 : Frm No w3 w4 := by rw [← hw4]; exact ((Frm.refl No w3).alloc _).alloc _
  have hs4 : w4.heap.size = w3.heap.size + 1 + 1 := by rw [← hw4]; simp
  have bR : BC w4 w3.heap.size [.slice none 0 0, .bool false, .pointer (some ⟨ib, 0, none⟩), .bool false] := by
    rw [← hw4]
    exact (BC.new w3 [.slice none 0 0, .bool false, .pointer (some ⟨ib, 0, none⟩), .bool false] 59).frm (by simp) ((Frm.refl No _).alloc _) (fun h => h)
  have bX : BC w4 (w3.heap.size + 1) [.int .i64 0, .int .i64 0, .int .i64 0, .slice none 0 0, .int .i64 0, .int .i64 0, .int .i64 0, .int .i64 0, .int .i64 0, .int .i64 0, .int .i64 0, .string ⟨#[]⟩, .bool false, .int .i64 0, .string ⟨#[]⟩, .slice none 0 0] := by
    rw [← hw4]
    exact BC.newAt _ [.int .i64 0, .int .i64 0, .int .i64 0, .slice none 0 0, .int .i64 0, .int .i64 0, .int .i64 0, .int .i64 0, .int .i64 0, .int .i64 0, .int .i64 0, .string ⟨#[]⟩, .bool false, .int .i64 0, .string ⟨#[]⟩, .slice none 0 0] _ _ (by simp)
  have hin4 : InAt w4 ib (Oct.enc m.kind ++ restB m) 0 := by rw [← HBD.out]; exact hin.frm hF4 (fun h => h)
  have HN := hid (rnum (w := w4) (rb := w3.heap.size) (ib := ib) (B := w3.heap.size + 1) (j := 0) (r := restB m) m.kind _ hin4 (by rw [← HBD.out]; omega) (bR.cell 2) hkn (bX.cell 0) (bX.fr 0) (by omega))
  rw [hw4]
  refine HN.out.mono ?_
  rintro e4 w6 ⟨rfl, w5, rfl, hi5, hf5⟩
  have bX6 := (bX.frm (by omega) hf5 (fun e => by have e : w3.heap.size + 1 = ib := e; omega)).set 0 (by simp) (.int .i64 m.kind)
  have hS6 : Frm (One (w3.heap.size + 1)) w5 (w5.setCell ⟨w3.heap.size + 1, 0, none⟩ (.int .i64 m.kind)) := Frm.setCell (p := ⟨w3.heap.size + 1, 0, none⟩) (Frm.refl (One _) w5) (fun _ => rfl) _
  have hin6 := hi5.frm hS6 (fun e => by have e : ib = w3.heap.size + 1 := e; omega)
  have bR6 := (bR.frm (by omega) hf5 (fun e => by have e : w3.heap.size = ib := e; omega)).frm (by have := hf5.size; omega) hS6 (fun e => by have e : w3.heap.size = w3.heap.size + 1 := e; omega)
  have hF6 : Frm No U (w5.setCell ⟨w3.heap.size + 1, 0, none⟩ (.int .i64 m.kind)) := ((hF3.thenNo hF4).trans hf5 (fun _ _ h => h) (fun i hi e => by have e : i = ib := e; omega)).trans hS6 (fun _ _ h => h) (fun i hi e => by have e : i = w3.heap.size + 1 := e; omega)
  have hz5 := hf5.size
  have hz6 := hS6.size
  obtain ⟨w6, hw6⟩ : ∃ w6, w5.setCell ⟨w3.heap.size + 1, 0, none⟩ (.int .i64 m.kind) = w6 := ⟨_, rfl⟩
  rw [hw6] at bX6 hin6 bR6 hF6 hz6 ⊢
  clear hw6 hw4 hi5 hf5 hS6 HN bX hin4 bR hF4 hf2 hf3 hin hF3 HIO
  obtain ⟨rb, hrb⟩ : ∃ rb, w3.heap.size = rb := ⟨_, rfl⟩
  obtain ⟨xb, hxb⟩ : ∃ xb, w3.heap.size + 1 = xb := ⟨_, rfl⟩
  rw [hrb] at bR6
  rw [hxb] at bX6
  rw [hxb, hrb]
  have p2 : w6.cell? ⟨rb, 2, none⟩ = some (.pointer (some ⟨ib, 0, none⟩)) := bR6.cell 2
  have x0 : w6.cell? ⟨xb, 0, none⟩ = some (.int .i64 m.kind) := bX6.cell 0
  have c1 : ¬ m.kind < 1 := by omega
  have c2 : ¬ 12 < m.kind := by omega
  go_upto_if 53 with (go_at_call 35; refine (in_err _ _ _ _ hin6).mono ?_; rintro e5 w7 ⟨rfl, rfl⟩)
  have hlr : (restB m).length ≤ 1048576 := by
    have : (body m).length = (Oct.enc m.kind).length + (restB m).length := by rw [HBD.out, List.length_append]
    omega
  have rm0 : ∀ kb, rb ≠ kb → ib ≠ kb → RM w6 w6 w6 rb ib xb kb (restB m ++ []) (msZ m.kind (.slice none 0 0) false) := fun kb h1 h2 => ⟨by rw [List.append_nil]; exact hin6, by rw [List.append_nil]; omega, p2, Frm.refl _ _, Frm.refl _ _, bX6, by omega, by omega, by omega, by omega, by omega, h1, by omega, h2⟩
  go_cut [10] from 54 to 56 (fun _ wq => GM U wq m rb ib xb)
  case first =>
    as_aux_lemma =>
    by_cases hk1 : m.kind = 1
    · have e1 : (m.kind == 1) = true := by simpa using hk1
      have hGM : GM U w6 m rb ib xb := ⟨⟨_, xb, rm0 xb (by omega) (by omega), .inl ⟨hk1, Rd.nil _ _ _ _, fun g hg => by cases hg⟩, by omega, fun g hg => by cases hg⟩, hF6, by omega, by omega, by omega, bR6.cell 3⟩
      have HGM := hid hGM
      clear hGM rm0 hk1
      go_wp2_with fail
      go_meet
      exact HGM.out
    · have e1 : (m.kind == 1) = false := by simpa using hk1
      have hmk : ∀ w, (Instr.makeSlice 23 (.int .i64 r) (.int .i64 r)).run Tryd.prog w = .ok (.slice (some ⟨w.heap.size, 0, none⟩) m.known.length m.known.length) (w.alloc (.cells (madeCells #[.int .i64 0] m.known.length) 3)) := fun w => by
        rw [← hlen hk1]
        exact run_make_row' (P := Tryd.prog) 23 3 (.int .i64 0) 8 Tryd.underlying23 info_int rfl .i64 .i64 m.known.length (by omega) (by omega) w
      have hxl : xb < w6.heap.size := by omega
      have x3 : w6.cell? ⟨xb, 3, none⟩ = some (.slice none 0 0) := bX6.cell 3
      have y3 : w6.frozen? ⟨xb, 3, none⟩ = false := bX6.fr 3
      have x3' : ∀ o, (w6.alloc o).cell? ⟨xb, 3, none⟩ = some (.slice none 0 0) := fun o => (((Frm.refl No w6).alloc o).cell (p := ⟨xb, 3, none⟩) hxl (fun h => h)).trans x3
      have y3' : ∀ o, (w6.alloc o).frozen? ⟨xb, 3, none⟩ = false := fun o => (((Frm.refl No w6).alloc o).frozen (p := ⟨xb, 3, none⟩) hxl (fun h => h)).trans y3
      have hs2 : (w6.setCell ⟨xb, 3, none⟩ (.slice (some ⟨w6.heap.size, 0, none⟩) m.known.length m.known.length)).heap.size = w6.heap.size := by simp
      have bK2 := made_ints (w6.setCell ⟨xb, 3, none⟩ (.slice (some ⟨w6.heap.size, 0, none⟩) m.known.length m.known.length)) m.known.length
      rw [hs2] at bK2
      have rm2 := ((rm0 w6.heap.size (by omega) (by omega)).setX 3 (by simp [msZ]) (.slice (some ⟨w6.heap.size, 0, none⟩) m.known.length m.known.length)).no ((Frm.refl No _).alloc (.cells (madeCells #[.int .i64 0] m.known.length) 3))
      have hf7 : Frm No U ((w6.setCell ⟨xb, 3, none⟩ (.slice (some ⟨w6.heap.size, 0, none⟩) m.known.length m.known.length)).alloc (.cells (madeCells #[.int .i64 0] m.known.length) 3)) := (hF6.trans (Frm.setCell (p := ⟨xb, 3, none⟩) (Frm.refl (One xb) w6) (fun _ => rfl) _) (fun _ _ h => h) (fun i hi e => by have e : i = xb := e; omega)).alloc _
      have hs7 : ((w6.setCell ⟨xb, 3, none⟩ (.slice (some ⟨w6.heap.size, 0, none⟩) m.known.length m.known.length)).alloc (.cells (madeCells #[.int .i64 0] m.known.length) 3)).heap.size = w6.heap.size + 1 := by rw [World.size_alloc, hs2]
      have hm7 : ((w6.setCell ⟨xb, 3, none⟩ (.slice (some ⟨w6.heap.size, 0, none⟩) m.known.length m.known.length)).alloc (.cells (madeCells #[.int .i64 0] m.known.length) 3)).cell? ⟨rb, 3, none⟩ = some (.bool false) := by
        have hR : Frm (One xb) w6 ((w6.setCell ⟨xb, 3, none⟩ (.slice (some ⟨w6.heap.size, 0, none⟩) m.known.length m.known.length)).alloc (.cells (madeCells #[.int .i64 0] m.known.length) 3)) := (Frm.setCell (p := ⟨xb, 3, none⟩) (Frm.refl (One xb) w6) (fun _ => rfl) _).alloc _
        exact (hR.cell (p := ⟨rb, 3, none⟩) (show rb < w6.heap.size by omega) (fun e => by have e : rb = xb := e; omega)).trans (bR6.cell 3)
      have HGM := hid (show GM U _ m rb ib xb from ⟨⟨_, w6.heap.size, ⟨rm2.in_, rm2.len, rm2.c2, Frm.refl _ _, Frm.refl _ _, rm2.x, by omega, by omega, by omega, rm2.n1, rm2.n2, rm2.n3, rm2.n4, rm2.n5⟩, .inr ⟨hk1, rfl, by omega, by omega, by omega, bK2⟩, by have := hF6.size; omega, fun g hg => by simp only [Value.ownBlock, Option.some.injEq] at hg; have := hF6.size; omega⟩, hf7, by omega, by omega, by omega, hm7⟩)
      clear rm0 rm2 bK2 hf7 hm7 hk1 hs7
      go_wp2_with fail
      go_meet
      exact HGM.out
  case rest =>
    as_aux_lemma =>
    obtain ⟨hW, hK, h1, hp⟩ := HP.out
    have HA := hid (hcut.all hW hK h1 hp)
    have HGd' := hid (fun (w7 : World) kv ev (hr : MsR w7 m kv ev) => HGd.out kv ev w7 hr)
    clear rm0 hcut bX6 hin6 bR6 p2 x0 hW hK h1 hp
    go_wp2_with fail
    refine HA.out.mono ?_
    rintro e7 w7 ⟨rfl, hgd⟩
    obtain ⟨⟨kv, ev, bx, hms, hok, hoe⟩, hin7, p7, m7, hF7, hxx⟩ := hgd
    obtain ⟨ka, kc, rfl⟩ := hms.kr.shape
    obtain ⟨ea, ec, rfl⟩ := hms.er.shape
    have kx : ∀ j, w7.cell? ⟨xb, j, none⟩ = ([.int .i64 m.kind, .int .i64 m.from_, .int .i64 m.born, .slice ka m.known.length kc, .int .i64 m.view, .int .i64 m.last, .int .i64 m.op, .int .i64 m.commit, .int .i64 m.client, .int .i64 m.number, .int .i64 m.nonce, .string ⟨m.text.toArray⟩, .bool m.full, .int .i64 m.base, .string ⟨m.state.toArray⟩, .slice ea m.entries.length ec] : List Value)[j]? := bx.cell
    have hxl : xb < w7.heap.size := World.block_lt_of_cell? w7 ⟨xb, 0, none⟩ (kx 0)
    have hrl : rb < w7.heap.size := World.block_lt_of_cell? w7 _ p7
    have bU7 := bU'.frm (by omega) hF7 (fun h => h)
    have hG := hid (HGd'.out w7 _ _ hms)
    unfold msV msC at hG
    have hend : Oct.rEnd [] 0 = 0 := rfl
    clear HA HGd HGd' bx
    go_wp2_with (first | (go_at_call 35; refine (in_err _ _ _ _ hin7).mono ?_; rintro e5 w8 ⟨rfl, rfl⟩) | (go_at_call 9; refine hG.out.mono ?_; rintro e8 w8 ⟨rfl, hf8⟩; have hin8 := hin7.frm hf8 (fun h => h); have p8 := (hf8.cell (p := ⟨rb, 2, none⟩) hrl (fun h => h)).trans p7; have kx8 := fun j => (hf8.cell (p := ⟨xb, j, none⟩) hxl (fun h => h)).trans (kx j); have bU8 := bU7.frm (by have := hF7.size; omega) hf8 (fun h => h); have HTH := hid (there_bc bU8 (n := 16) (Nat.le_refl _)); have HB8 := hid bU8) | (refine wpList_store_mid rfl 31 (.tmp 4) (.tmp 88) rfl w.heap.size 0 #[.int .i64 m.kind, .int .i64 m.from_, .int .i64 m.born, (.slice ka m.known.length kc), .int .i64 m.view, .int .i64 m.last, .int .i64 m.op, .int .i64 m.commit, .int .i64 m.client, .int .i64 m.number, .int .i64 m.nonce, .string ⟨m.text.toArray⟩, .bool m.full, .int .i64 m.base, .string ⟨m.state.toArray⟩, .slice ea m.entries.length ec] rfl rfl HTH.out (by kernel_rfl) (msC_one m _ _ _ _ _ _) ?_; obtain ⟨w9, e9, hb9, hf9⟩ : ∃ w9, w8.setCells w.heap.size 0 (#[.int .i64 m.kind, .int .i64 m.from_, .int .i64 m.born, (.slice ka m.known.length kc), .int .i64 m.view, .int .i64 m.last, .int .i64 m.op, .int .i64 m.commit, .int .i64 m.client, .int .i64 m.number, .int .i64 m.nonce, .string ⟨m.text.toArray⟩, .bool m.full, .int .i64 m.base, .string ⟨m.state.toArray⟩, .slice ea m.entries.length ec] : Array Value).toList = w9 ∧ BC w9 w.heap.size ([.int .i64 m.kind, .int .i64 m.from_, .int .i64 m.born, .slice ka m.known.length kc, .int .i64 m.view, .int .i64 m.last, .int .i64 m.op, .int .i64 m.commit, .int .i64 m.client, .int .i64 m.number, .int .i64 m.nonce, .string ⟨m.text.toArray⟩, .bool m.full, .int .i64 m.base, .string ⟨m.state.toArray⟩, .slice ea m.entries.length ec]) ∧ Frm (One w.heap.size) w8 w9 := ⟨_, rfl, setCells_bc HB8.out rfl, setCells_frm w.heap.size _ 0 w8⟩; rw [e9]; clear e9) | (go_at_call 36; refine (in_end _ _ _ _ hin8).mono ?_; rintro e9 w9 ⟨rfl, rfl⟩; rw [hend]))
    have z := hb9.cell
    refine bodyPost_ret (v := .tuple #[.agg #[.int .i64 m.kind, .int .i64 m.from_, .int .i64 m.born, (.slice ka m.known.length kc), .int .i64 m.view, .int .i64 m.last, .int .i64 m.op, .int .i64 m.commit, .int .i64 m.client, .int .i64 m.number, .int .i64 m.nonce, .string ⟨m.text.toArray⟩, .bool m.full, .int .i64 m.base, .string ⟨m.state.toArray⟩, .slice ea m.entries.length ec], .int .i64 0]) (by simp [results, Tryd.results11, go_sem, z]) rfl ⟨_, _, rfl, ?_, ?_⟩
    · exact ⟨(hms.no hf8).kr.frm hf9 (fun k hk e => by have := hok k hk; have e : k = w.heap.size := e; omega), (hms.no hf8).er.frm (fun _ _ => rfl) hf9 (fun k hk e => by have := hoe k hk; have e : k = w.heap.size := e; omega)⟩
    · exact ((hU.thenNo hF7).thenNo hf8).trans hf9 (fun _ _ h => h) (fun i hi e => by have e : i = w.heap.size := e; omega)
end Go.Proofs.YtaejcejfpcjifaaDoor
