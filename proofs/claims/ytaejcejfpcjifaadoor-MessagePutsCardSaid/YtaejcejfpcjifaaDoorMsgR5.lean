/- All fields of a message, read. Printed by a program (msgr3.py). -/
import Derived.Test.YtaejcejfpcjifaaDoorMsgR3
namespace Go.Proofs.YtaejcejfpcjifaaDoor
open Go.RowKit
open Msg

set_option maxRecDepth 100000 in
set_option maxHeartbeats 2000000 in
theorem RM.all4 {w0 wS w : World} {rb ib xb kb : Nat} {r : List UInt8} (from_ born : Int) (known : List Int) (view last op commit client number nonce : Int) (text : List UInt8) (full : Bool) (base : Int) (state : List UInt8) (entries : List Ent) (hW : WOk ⟨4, from_, born, known, view, last, op, commit, client, number, nonce, text, full, base, state, entries⟩) (hkx : kb ≠ xb) (hkz : kb < w0.heap.size) (hkb : BC w kb (List.replicate known.length (.int .i64 0))) (h : RM w0 wS w rb ib xb kb (restB ⟨4, from_, born, known, view, last, op, commit, client, number, nonce, text, full, base, state, entries⟩ ++ r) [.int .i64 4, .int .i64 0, .int .i64 0, .slice (some ⟨kb, 0, none⟩) known.length known.length, .int .i64 0, .int .i64 0, .int .i64 0, .int .i64 0, .int .i64 0, .int .i64 0, .int .i64 0, .string ⟨#[]⟩, .bool false, .int .i64 0, .string ⟨#[]⟩, .slice none 0 0]) :
    Calls Tryd.prog 20 #[.pointer (some ⟨xb, 0, none⟩), .pointer (some ⟨rb, 0, none⟩)] w (RMA w0 rb ib xb kb r (proj ⟨4, from_, born, known, view, last, op, commit, client, number, nonce, text, full, base, state, entries⟩) (.slice (some ⟨kb, 0, none⟩) known.length known.length)) := by
  have HR : restB ⟨4, from_, born, known, view, last, op, commit, client, number, nonce, text, full, base, state, entries⟩ ++ r = Oct.enc from_ ++ (Oct.enc born ++ (Oct.ints known ++ (Oct.enc view ++ (Oct.enc client ++ (Oct.enc number ++ (Oct.text text ++ (r))))))) := by simp [restB, headB, lets, letB]
  have hw0 := h.frm.size
  replace h := (h.eq HR rfl).restart
  clear HR
  have HP : proj ⟨4, from_, born, known, view, last, op, commit, client, number, nonce, text, full, base, state, entries⟩ = ⟨4, from_, born, known, view, 0, 0, 0, client, number, 0, text, false, 0, [], []⟩ := by simp [proj, has, lets]
  rw [HP]
  clear HP
  have q0 := h.x.cell
  go_enter Tryd.func20, Tryd.ntmps20
  go_wp2_with fail
  refine (h.num (hW.from_ (by simp)) 1 (by simp)).mono ?_
  rintro e1 w1 ⟨rfl, r1⟩
  have f1 : RM w0 w w1 rb ib xb kb (Oct.enc born ++ (Oct.ints known ++ (Oct.enc view ++ (Oct.enc client ++ (Oct.enc number ++ (Oct.text text ++ (r))))))) [.int .i64 4, .int .i64 from_, .int .i64 0, .slice (some ⟨kb, 0, none⟩) known.length known.length, .int .i64 0, .int .i64 0, .int .i64 0, .int .i64 0, .int .i64 0, .int .i64 0, .int .i64 0, .string ⟨#[]⟩, .bool false, .int .i64 0, .string ⟨#[]⟩, .slice none 0 0] := r1
  clear r1 h q0
  have q1 := f1.x.cell
  go_wp2_with fail
  refine (f1.num hW.born 2 (by simp)).mono ?_
  rintro e2 w2 ⟨rfl, r2⟩
  have f2 : RM w0 w w2 rb ib xb kb (Oct.ints known ++ (Oct.enc view ++ (Oct.enc client ++ (Oct.enc number ++ (Oct.text text ++ (r)))))) [.int .i64 4, .int .i64 from_, .int .i64 born, .slice (some ⟨kb, 0, none⟩) known.length known.length, .int .i64 0, .int .i64 0, .int .i64 0, .int .i64 0, .int .i64 0, .int .i64 0, .int .i64 0, .string ⟨#[]⟩, .bool false, .int .i64 0, .string ⟨#[]⟩, .slice none 0 0] := r2
  clear r2 f1 q1
  have q2 := f2.x.cell
  have hk2 : BC w2 kb (List.replicate known.length (.int .i64 0)) := hkb.frm (Nat.lt_of_lt_of_le hkz hw0) f2.mov (fun e => by rcases e with e | e; exact f2.n5 e.symm; exact hkx e)
  have hk7 := hW.klen
  dsimp only at hk7
  go_wp2_with fail
  go_loopw [4, 25] (fun _ i wr => ∃ k : Nat, k ≤ known.length ∧ i = .int .i64 (k : Int) ∧ RM w0 wr wr rb ib xb kb (Oct.ints (known.drop k) ++ (Oct.enc view ++ (Oct.enc client ++ (Oct.enc number ++ (Oct.text text ++ (r)))))) [.int .i64 4, .int .i64 from_, .int .i64 born, .slice (some ⟨kb, 0, none⟩) known.length known.length, .int .i64 0, .int .i64 0, .int .i64 0, .int .i64 0, .int .i64 0, .int .i64 0, .int .i64 0, .string ⟨#[]⟩, .bool false, .int .i64 0, .string ⟨#[]⟩, .slice none 0 0] ∧ BC wr kb (intsV (known.take k) ++ List.replicate (known.length - k) (.int .i64 0)))
    (fun _ i _ => known.length - (intOf i).toNat)
  case atStart => exact ⟨0, by omega, rfl, by simpa using f2.restart, by simpa [intsV] using hk2⟩
  case round =>
   obtain ⟨k, hk, rfl, hq, hbq⟩ := hrel
   clear q2 f2 hk2
   have q3 := hq.x.cell
   by_cases hkl : k < known.length
   · have hnk : Msg.num known[k] = true := List.all_eq_true.1 hW.known _ (List.getElem_mem hkl)
     have hq' := hq.eq (ints_drop known k hkl _) rfl
     clear hq
     have HN := hid (hq'.numK hbq hkx hnk k (by simp [intsV]; omega))
     rw [nums_set known k hkl] at HN
     clear hq'
     go_wp2_with fail
     refine HN.out.mono ?_
     rintro e3 w3 ⟨rfl, f3, b3⟩
     go_wp2_with fail
     exact ⟨⟨k + 1, by omega, by go_num, f3, b3⟩, by simp [intOf]; omega⟩
   · obtain rfl : k = known.length := by omega
     rw [List.take_length, Nat.sub_self, List.replicate_zero, List.append_nil] at hbq
     have h3 : RM w0 wr wr rb ib xb kb (Oct.enc view ++ (Oct.enc client ++ (Oct.enc number ++ (Oct.text text ++ (r))))) [.int .i64 4, .int .i64 from_, .int .i64 born, .slice (some ⟨kb, 0, none⟩) known.length known.length, .int .i64 0, .int .i64 0, .int .i64 0, .int .i64 0, .int .i64 0, .int .i64 0, .int .i64 0, .string ⟨#[]⟩, .bool false, .int .i64 0, .string ⟨#[]⟩, .slice none 0 0] := by rw [List.drop_length] at hq; exact hq
     clear hq
     have hrd : Rd wr (.slice (some ⟨kb, 0, none⟩) known.length known.length) known.length 1 (intsV known) := hbq.rd
     have hkR : ∀ g, (Value.slice (some ⟨kb, 0, none⟩) known.length known.length).ownBlock = some g → ¬ R2 ib xb g := fun g hg e => by
       simp only [Value.ownBlock, Option.some.injEq] at hg
       subst hg
       rcases e with e | e
       · exact h3.n5 e.symm
       · exact hkx e
     go_wp2_with fail
     refine (h3.num hW.view 4 (by simp)).mono ?_
     rintro e4 w4 ⟨rfl, r4⟩
     have f4 : RM w0 wr w4 rb ib xb kb (Oct.enc client ++ (Oct.enc number ++ (Oct.text text ++ (r)))) [.int .i64 4, .int .i64 from_, .int .i64 born, .slice (some ⟨kb, 0, none⟩) known.length known.length, .int .i64 view, .int .i64 0, .int .i64 0, .int .i64 0, .int .i64 0, .int .i64 0, .int .i64 0, .string ⟨#[]⟩, .bool false, .int .i64 0, .string ⟨#[]⟩, .slice none 0 0] := r4
     clear r4 h3 q3
     have q4 := f4.x.cell
     go_wp2_with fail
     refine (f4.num hW.client 8 (by simp)).mono ?_
     rintro e5 w5 ⟨rfl, r5⟩
     have f5 : RM w0 wr w5 rb ib xb kb (Oct.enc number ++ (Oct.text text ++ (r))) [.int .i64 4, .int .i64 from_, .int .i64 born, .slice (some ⟨kb, 0, none⟩) known.length known.length, .int .i64 view, .int .i64 0, .int .i64 0, .int .i64 0, .int .i64 client, .int .i64 0, .int .i64 0, .string ⟨#[]⟩, .bool false, .int .i64 0, .string ⟨#[]⟩, .slice none 0 0] := r5
     clear r5 f4 q4
     have q5 := f5.x.cell
     go_wp2_with fail
     refine (f5.num hW.number 9 (by simp)).mono ?_
     rintro e6 w6 ⟨rfl, r6⟩
     have f6 : RM w0 wr w6 rb ib xb kb (Oct.text text ++ (r)) [.int .i64 4, .int .i64 from_, .int .i64 born, .slice (some ⟨kb, 0, none⟩) known.length known.length, .int .i64 view, .int .i64 0, .int .i64 0, .int .i64 0, .int .i64 client, .int .i64 number, .int .i64 0, .string ⟨#[]⟩, .bool false, .int .i64 0, .string ⟨#[]⟩, .slice none 0 0] := r6
     clear r6 f5 q5
     have q6 := f6.x.cell
     go_wp2_with fail
     refine (f6.text hW.text 11 (by simp)).mono ?_
     rintro e7 w7 ⟨rfl, r7⟩
     have f7 : RM w0 wr w7 rb ib xb kb (r) [.int .i64 4, .int .i64 from_, .int .i64 born, .slice (some ⟨kb, 0, none⟩) known.length known.length, .int .i64 view, .int .i64 0, .int .i64 0, .int .i64 0, .int .i64 client, .int .i64 number, .int .i64 0, .string ⟨text.toArray⟩, .bool false, .int .i64 0, .string ⟨#[]⟩, .slice none 0 0] := r7
     clear r7 f6 q6
     have q7 := f7.x.cell
     go_wp2_with fail
     refine (tail_at ⟨4, from_, born, [], view, 0, 0, 0, client, number, 0, text, false, 0, [], []⟩ _ _ false (by simp [Msg.tail]) _).mono ?_
     rintro e8 w8 ⟨rfl, ht8⟩
     have f8 := f7.no ht8
     have q8 := f8.x.cell
     clear f7 q7
     go_wp2_with fail
     go_end0
     exact ⟨rfl, _, f8.restart, ⟨.inl ⟨rfl, none, 0, rfl⟩⟩, (fun g hg => by cases hg), hrd.frm f8.mov hkR⟩

set_option maxRecDepth 100000 in
set_option maxHeartbeats 2000000 in
theorem RM.all5 {w0 wS w : World} {rb ib xb kb : Nat} {r : List UInt8} (from_ born : Int) (known : List Int) (view last op commit client number nonce : Int) (text : List UInt8) (full : Bool) (base : Int) (state : List UInt8) (entries : List Ent) (hW : WOk ⟨5, from_, born, known, view, last, op, commit, client, number, nonce, text, full, base, state, entries⟩) (hkx : kb ≠ xb) (hkz : kb < w0.heap.size) (hkb : BC w kb (List.replicate known.length (.int .i64 0))) (h : RM w0 wS w rb ib xb kb (restB ⟨5, from_, born, known, view, last, op, commit, client, number, nonce, text, full, base, state, entries⟩ ++ r) [.int .i64 5, .int .i64 0, .int .i64 0, .slice (some ⟨kb, 0, none⟩) known.length known.length, .int .i64 0, .int .i64 0, .int .i64 0, .int .i64 0, .int .i64 0, .int .i64 0, .int .i64 0, .string ⟨#[]⟩, .bool false, .int .i64 0, .string ⟨#[]⟩, .slice none 0 0]) :
    Calls Tryd.prog 20 #[.pointer (some ⟨xb, 0, none⟩), .pointer (some ⟨rb, 0, none⟩)] w (RMA w0 rb ib xb kb r (proj ⟨5, from_, born, known, view, last, op, commit, client, number, nonce, text, full, base, state, entries⟩) (.slice (some ⟨kb, 0, none⟩) known.length known.length)) := by
  have HR : restB ⟨5, from_, born, known, view, last, op, commit, client, number, nonce, text, full, base, state, entries⟩ ++ r = Oct.enc from_ ++ (Oct.enc born ++ (Oct.ints known ++ (Oct.enc view ++ (Oct.enc op ++ (Oct.enc commit ++ (r)))))) := by simp [restB, headB, lets, letB]
  have hw0 := h.frm.size
  replace h := (h.eq HR rfl).restart
  clear HR
  have HP : proj ⟨5, from_, born, known, view, last, op, commit, client, number, nonce, text, full, base, state, entries⟩ = ⟨5, from_, born, known, view, 0, op, commit, 0, 0, 0, [], false, 0, [], []⟩ := by simp [proj, has, lets]
  rw [HP]
  clear HP
  have q0 := h.x.cell
  go_enter Tryd.func20, Tryd.ntmps20
  go_wp2_with fail
  refine (h.num (hW.from_ (by simp)) 1 (by simp)).mono ?_
  rintro e1 w1 ⟨rfl, r1⟩
  have f1 : RM w0 w w1 rb ib xb kb (Oct.enc born ++ (Oct.ints known ++ (Oct.enc view ++ (Oct.enc op ++ (Oct.enc commit ++ (r)))))) [.int .i64 5, .int .i64 from_, .int .i64 0, .slice (some ⟨kb, 0, none⟩) known.length known.length, .int .i64 0, .int .i64 0, .int .i64 0, .int .i64 0, .int .i64 0, .int .i64 0, .int .i64 0, .string ⟨#[]⟩, .bool false, .int .i64 0, .string ⟨#[]⟩, .slice none 0 0] := r1
  clear r1 h q0
  have q1 := f1.x.cell
  go_wp2_with fail
  refine (f1.num hW.born 2 (by simp)).mono ?_
  rintro e2 w2 ⟨rfl, r2⟩
  have f2 : RM w0 w w2 rb ib xb kb (Oct.ints known ++ (Oct.enc view ++ (Oct.enc op ++ (Oct.enc commit ++ (r))))) [.int .i64 5, .int .i64 from_, .int .i64 born, .slice (some ⟨kb, 0, none⟩) known.length known.length, .int .i64 0, .int .i64 0, .int .i64 0, .int .i64 0, .int .i64 0, .int .i64 0, .int .i64 0, .string ⟨#[]⟩, .bool false, .int .i64 0, .string ⟨#[]⟩, .slice none 0 0] := r2
  clear r2 f1 q1
  have q2 := f2.x.cell
  have hk2 : BC w2 kb (List.replicate known.length (.int .i64 0)) := hkb.frm (Nat.lt_of_lt_of_le hkz hw0) f2.mov (fun e => by rcases e with e | e; exact f2.n5 e.symm; exact hkx e)
  have hk7 := hW.klen
  dsimp only at hk7
  go_wp2_with fail
  go_loopw [4, 25] (fun _ i wr => ∃ k : Nat, k ≤ known.length ∧ i = .int .i64 (k : Int) ∧ RM w0 wr wr rb ib xb kb (Oct.ints (known.drop k) ++ (Oct.enc view ++ (Oct.enc op ++ (Oct.enc commit ++ (r))))) [.int .i64 5, .int .i64 from_, .int .i64 born, .slice (some ⟨kb, 0, none⟩) known.length known.length, .int .i64 0, .int .i64 0, .int .i64 0, .int .i64 0, .int .i64 0, .int .i64 0, .int .i64 0, .string ⟨#[]⟩, .bool false, .int .i64 0, .string ⟨#[]⟩, .slice none 0 0] ∧ BC wr kb (intsV (known.take k) ++ List.replicate (known.length - k) (.int .i64 0)))
    (fun _ i _ => known.length - (intOf i).toNat)
  case atStart => exact ⟨0, by omega, rfl, by simpa using f2.restart, by simpa [intsV] using hk2⟩
  case round =>
   obtain ⟨k, hk, rfl, hq, hbq⟩ := hrel
   clear q2 f2 hk2
   have q3 := hq.x.cell
   by_cases hkl : k < known.length
   · have hnk : Msg.num known[k] = true := List.all_eq_true.1 hW.known _ (List.getElem_mem hkl)
     have hq' := hq.eq (ints_drop known k hkl _) rfl
     clear hq
     have HN := hid (hq'.numK hbq hkx hnk k (by simp [intsV]; omega))
     rw [nums_set known k hkl] at HN
     clear hq'
     go_wp2_with fail
     refine HN.out.mono ?_
     rintro e3 w3 ⟨rfl, f3, b3⟩
     go_wp2_with fail
     exact ⟨⟨k + 1, by omega, by go_num, f3, b3⟩, by simp [intOf]; omega⟩
   · obtain rfl : k = known.length := by omega
     rw [List.take_length, Nat.sub_self, List.replicate_zero, List.append_nil] at hbq
     have h3 : RM w0 wr wr rb ib xb kb (Oct.enc view ++ (Oct.enc op ++ (Oct.enc commit ++ (r)))) [.int .i64 5, .int .i64 from_, .int .i64 born, .slice (some ⟨kb, 0, none⟩) known.length known.length, .int .i64 0, .int .i64 0, .int .i64 0, .int .i64 0, .int .i64 0, .int .i64 0, .int .i64 0, .string ⟨#[]⟩, .bool false, .int .i64 0, .string ⟨#[]⟩, .slice none 0 0] := by rw [List.drop_length] at hq; exact hq
     clear hq
     have hrd : Rd wr (.slice (some ⟨kb, 0, none⟩) known.length known.length) known.length 1 (intsV known) := hbq.rd
     have hkR : ∀ g, (Value.slice (some ⟨kb, 0, none⟩) known.length known.length).ownBlock = some g → ¬ R2 ib xb g := fun g hg e => by
       simp only [Value.ownBlock, Option.some.injEq] at hg
       subst hg
       rcases e with e | e
       · exact h3.n5 e.symm
       · exact hkx e
     go_wp2_with fail
     refine (RM.views5 from_ born known view last op commit client number nonce text full base state entries hW h3).mono ?_
     rintro e4 w4 ⟨rfl, f4⟩
     have q4 := f4.x.cell
     go_wp2_with fail
     refine (tail_at ⟨5, from_, born, [], view, 0, op, commit, 0, 0, 0, [], false, 0, [], []⟩ _ _ false (by simp [Msg.tail]) _).mono ?_
     rintro e5 w5 ⟨rfl, ht5⟩
     have f5 := f4.no ht5
     have q5 := f5.x.cell
     clear f4 q4
     go_wp2_with fail
     go_end0
     exact ⟨rfl, _, f5.restart, ⟨.inl ⟨rfl, none, 0, rfl⟩⟩, (fun g hg => by cases hg), hrd.frm f5.mov hkR⟩

set_option maxRecDepth 100000 in
set_option maxHeartbeats 2000000 in
theorem RM.all6 {w0 wS w : World} {rb ib xb kb : Nat} {r : List UInt8} (from_ born : Int) (known : List Int) (view last op commit client number nonce : Int) (text : List UInt8) (full : Bool) (base : Int) (state : List UInt8) (entries : List Ent) (hW : WOk ⟨6, from_, born, known, view, last, op, commit, client, number, nonce, text, full, base, state, entries⟩) (hkx : kb ≠ xb) (hkz : kb < w0.heap.size) (hkb : BC w kb (List.replicate known.length (.int .i64 0))) (h : RM w0 wS w rb ib xb kb (restB ⟨6, from_, born, known, view, last, op, commit, client, number, nonce, text, full, base, state, entries⟩ ++ r) [.int .i64 6, .int .i64 0, .int .i64 0, .slice (some ⟨kb, 0, none⟩) known.length known.length, .int .i64 0, .int .i64 0, .int .i64 0, .int .i64 0, .int .i64 0, .int .i64 0, .int .i64 0, .string ⟨#[]⟩, .bool false, .int .i64 0, .string ⟨#[]⟩, .slice none 0 0]) :
    Calls Tryd.prog 20 #[.pointer (some ⟨xb, 0, none⟩), .pointer (some ⟨rb, 0, none⟩)] w (RMA w0 rb ib xb kb r (proj ⟨6, from_, born, known, view, last, op, commit, client, number, nonce, text, full, base, state, entries⟩) (.slice (some ⟨kb, 0, none⟩) known.length known.length)) := by
  have HR : restB ⟨6, from_, born, known, view, last, op, commit, client, number, nonce, text, full, base, state, entries⟩ ++ r = Oct.enc from_ ++ (Oct.enc born ++ (Oct.ints known ++ (Oct.enc view ++ (r)))) := by simp [restB, headB, lets, letB]
  have hw0 := h.frm.size
  replace h := (h.eq HR rfl).restart
  clear HR
  have HP : proj ⟨6, from_, born, known, view, last, op, commit, client, number, nonce, text, full, base, state, entries⟩ = ⟨6, from_, born, known, view, 0, 0, 0, 0, 0, 0, [], false, 0, [], []⟩ := by simp [proj, has, lets]
  rw [HP]
  clear HP
  have q0 := h.x.cell
  go_enter Tryd.func20, Tryd.ntmps20
  go_wp2_with fail
  refine (h.num (hW.from_ (by simp)) 1 (by simp)).mono ?_
  rintro e1 w1 ⟨rfl, r1⟩
  have f1 : RM w0 w w1 rb ib xb kb (Oct.enc born ++ (Oct.ints known ++ (Oct.enc view ++ (r)))) [.int .i64 6, .int .i64 from_, .int .i64 0, .slice (some ⟨kb, 0, none⟩) known.length known.length, .int .i64 0, .int .i64 0, .int .i64 0, .int .i64 0, .int .i64 0, .int .i64 0, .int .i64 0, .string ⟨#[]⟩, .bool false, .int .i64 0, .string ⟨#[]⟩, .slice none 0 0] := r1
  clear r1 h q0
  have q1 := f1.x.cell
  go_wp2_with fail
  refine (f1.num hW.born 2 (by simp)).mono ?_
  rintro e2 w2 ⟨rfl, r2⟩
  have f2 : RM w0 w w2 rb ib xb kb (Oct.ints known ++ (Oct.enc view ++ (r))) [.int .i64 6, .int .i64 from_, .int .i64 born, .slice (some ⟨kb, 0, none⟩) known.length known.length, .int .i64 0, .int .i64 0, .int .i64 0, .int .i64 0, .int .i64 0, .int .i64 0, .int .i64 0, .string ⟨#[]⟩, .bool false, .int .i64 0, .string ⟨#[]⟩, .slice none 0 0] := r2
  clear r2 f1 q1
  have q2 := f2.x.cell
  have hk2 : BC w2 kb (List.replicate known.length (.int .i64 0)) := hkb.frm (Nat.lt_of_lt_of_le hkz hw0) f2.mov (fun e => by rcases e with e | e; exact f2.n5 e.symm; exact hkx e)
  have hk7 := hW.klen
  dsimp only at hk7
  go_wp2_with fail
  go_loopw [4, 25] (fun _ i wr => ∃ k : Nat, k ≤ known.length ∧ i = .int .i64 (k : Int) ∧ RM w0 wr wr rb ib xb kb (Oct.ints (known.drop k) ++ (Oct.enc view ++ (r))) [.int .i64 6, .int .i64 from_, .int .i64 born, .slice (some ⟨kb, 0, none⟩) known.length known.length, .int .i64 0, .int .i64 0, .int .i64 0, .int .i64 0, .int .i64 0, .int .i64 0, .int .i64 0, .string ⟨#[]⟩, .bool false, .int .i64 0, .string ⟨#[]⟩, .slice none 0 0] ∧ BC wr kb (intsV (known.take k) ++ List.replicate (known.length - k) (.int .i64 0)))
    (fun _ i _ => known.length - (intOf i).toNat)
  case atStart => exact ⟨0, by omega, rfl, by simpa using f2.restart, by simpa [intsV] using hk2⟩
  case round =>
   obtain ⟨k, hk, rfl, hq, hbq⟩ := hrel
   clear q2 f2 hk2
   have q3 := hq.x.cell
   by_cases hkl : k < known.length
   · have hnk : Msg.num known[k] = true := List.all_eq_true.1 hW.known _ (List.getElem_mem hkl)
     have hq' := hq.eq (ints_drop known k hkl _) rfl
     clear hq
     have HN := hid (hq'.numK hbq hkx hnk k (by simp [intsV]; omega))
     rw [nums_set known k hkl] at HN
     clear hq'
     go_wp2_with fail
     refine HN.out.mono ?_
     rintro e3 w3 ⟨rfl, f3, b3⟩
     go_wp2_with fail
     exact ⟨⟨k + 1, by omega, by go_num, f3, b3⟩, by simp [intOf]; omega⟩
   · obtain rfl : k = known.length := by omega
     rw [List.take_length, Nat.sub_self, List.replicate_zero, List.append_nil] at hbq
     have h3 : RM w0 wr wr rb ib xb kb (Oct.enc view ++ (r)) [.int .i64 6, .int .i64 from_, .int .i64 born, .slice (some ⟨kb, 0, none⟩) known.length known.length, .int .i64 0, .int .i64 0, .int .i64 0, .int .i64 0, .int .i64 0, .int .i64 0, .int .i64 0, .string ⟨#[]⟩, .bool false, .int .i64 0, .string ⟨#[]⟩, .slice none 0 0] := by rw [List.drop_length] at hq; exact hq
     clear hq
     have hrd : Rd wr (.slice (some ⟨kb, 0, none⟩) known.length known.length) known.length 1 (intsV known) := hbq.rd
     have hkR : ∀ g, (Value.slice (some ⟨kb, 0, none⟩) known.length known.length).ownBlock = some g → ¬ R2 ib xb g := fun g hg e => by
       simp only [Value.ownBlock, Option.some.injEq] at hg
       subst hg
       rcases e with e | e
       · exact h3.n5 e.symm
       · exact hkx e
     go_wp2_with fail
     refine (RM.views6 from_ born known view last op commit client number nonce text full base state entries hW h3).mono ?_
     rintro e4 w4 ⟨rfl, f4⟩
     have q4 := f4.x.cell
     go_wp2_with fail
     refine (tail_at ⟨6, from_, born, [], view, 0, 0, 0, 0, 0, 0, [], false, 0, [], []⟩ _ _ false (by simp [Msg.tail]) _).mono ?_
     rintro e5 w5 ⟨rfl, ht5⟩
     have f5 := f4.no ht5
     have q5 := f5.x.cell
     clear f4 q4
     go_wp2_with fail
     go_end0
     exact ⟨rfl, _, f5.restart, ⟨.inl ⟨rfl, none, 0, rfl⟩⟩, (fun g hg => by cases hg), hrd.frm f5.mov hkR⟩

end Go.Proofs.YtaejcejfpcjifaaDoor
