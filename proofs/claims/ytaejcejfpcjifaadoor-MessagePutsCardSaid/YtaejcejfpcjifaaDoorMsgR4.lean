/- All fields of a message, read. Printed by a program (msgr3.py). -/
import Derived.Test.YtaejcejfpcjifaaDoorMsgR3
namespace Go.Proofs.YtaejcejfpcjifaaDoor
open Go.RowKit
open Msg

set_option maxRecDepth 100000 in
set_option maxHeartbeats 2000000 in
theorem RM.all1 {w0 wS w : World} {rb ib xb kb : Nat} {r : List UInt8} (from_ born : Int) (known : List Int) (view last op commit client number nonce : Int) (text : List UInt8) (full : Bool) (base : Int) (state : List UInt8) (entries : List Ent) (hW : WOk ⟨1, from_, born, known, view, last, op, commit, client, number, nonce, text, full, base, state, entries⟩) (kv : Value) (hk0 : Rd w kv 0 1 []) (hkv : ∀ g, kv.ownBlock = some g → ¬ R2 ib xb g) (h : RM w0 wS w rb ib xb kb (restB ⟨1, from_, born, known, view, last, op, commit, client, number, nonce, text, full, base, state, entries⟩ ++ r) [.int .i64 1, .int .i64 0, .int .i64 0, kv, .int .i64 0, .int .i64 0, .int .i64 0, .int .i64 0, .int .i64 0, .int .i64 0, .int .i64 0, .string ⟨#[]⟩, .bool false, .int .i64 0, .string ⟨#[]⟩, .slice none 0 0]) :
    Calls Tryd.prog 20 #[.pointer (some ⟨xb, 0, none⟩), .pointer (some ⟨rb, 0, none⟩)] w (RMA w0 rb ib xb kb r (proj ⟨1, from_, born, known, view, last, op, commit, client, number, nonce, text, full, base, state, entries⟩) kv) := by
  have HR : restB ⟨1, from_, born, known, view, last, op, commit, client, number, nonce, text, full, base, state, entries⟩ ++ r = Oct.enc client ++ (Oct.enc number ++ (Oct.text text ++ (r))) := by simp [restB, headB, lets, letB]
  have hw0 := h.frm.size
  replace h := (h.eq HR rfl).restart
  clear HR
  have HP : proj ⟨1, from_, born, known, view, last, op, commit, client, number, nonce, text, full, base, state, entries⟩ = ⟨1, 0, 0, [], 0, 0, 0, 0, client, number, 0, text, false, 0, [], []⟩ := by simp [proj, has, lets]
  rw [HP]
  clear HP
  have q0 := h.x.cell
  go_enter Tryd.func20, Tryd.ntmps20
  go_wp2_with fail
  refine (h.num hW.client 8 (by simp)).mono ?_
  rintro e1 w1 ⟨rfl, r1⟩
  have f1 : RM w0 w w1 rb ib xb kb (Oct.enc number ++ (Oct.text text ++ (r))) [.int .i64 1, .int .i64 0, .int .i64 0, kv, .int .i64 0, .int .i64 0, .int .i64 0, .int .i64 0, .int .i64 client, .int .i64 0, .int .i64 0, .string ⟨#[]⟩, .bool false, .int .i64 0, .string ⟨#[]⟩, .slice none 0 0] := r1
  clear r1 h q0
  have q1 := f1.x.cell
  go_wp2_with fail
  refine (f1.num hW.number 9 (by simp)).mono ?_
  rintro e2 w2 ⟨rfl, r2⟩
  have f2 : RM w0 w w2 rb ib xb kb (Oct.text text ++ (r)) [.int .i64 1, .int .i64 0, .int .i64 0, kv, .int .i64 0, .int .i64 0, .int .i64 0, .int .i64 0, .int .i64 client, .int .i64 number, .int .i64 0, .string ⟨#[]⟩, .bool false, .int .i64 0, .string ⟨#[]⟩, .slice none 0 0] := r2
  clear r2 f1 q1
  have q2 := f2.x.cell
  go_wp2_with fail
  refine (f2.text hW.text 11 (by simp)).mono ?_
  rintro e3 w3 ⟨rfl, r3⟩
  have f3 : RM w0 w w3 rb ib xb kb (r) [.int .i64 1, .int .i64 0, .int .i64 0, kv, .int .i64 0, .int .i64 0, .int .i64 0, .int .i64 0, .int .i64 client, .int .i64 number, .int .i64 0, .string ⟨text.toArray⟩, .bool false, .int .i64 0, .string ⟨#[]⟩, .slice none 0 0] := r3
  clear r3 f2 q2
  have q3 := f3.x.cell
  go_wp2_with fail
  refine (tail_at ⟨1, 0, 0, [], 0, 0, 0, 0, client, number, 0, text, false, 0, [], []⟩ _ _ false (by simp [Msg.tail]) _).mono ?_
  rintro e4 w4 ⟨rfl, ht4⟩
  have f4 := f3.no ht4
  have q4 := f4.x.cell
  clear f3 q3
  go_wp2_with fail
  go_end0
  exact ⟨rfl, _, f4.restart, ⟨.inl ⟨rfl, none, 0, rfl⟩⟩, (fun g hg => by cases hg), hk0.frm f4.mov hkv⟩

set_option maxRecDepth 100000 in
set_option maxHeartbeats 2000000 in
theorem RM.all2 {w0 wS w : World} {rb ib xb kb : Nat} {r : List UInt8} (from_ born : Int) (known : List Int) (view last op commit client number nonce : Int) (text : List UInt8) (full : Bool) (base : Int) (state : List UInt8) (entries : List Ent) (hW : WOk ⟨2, from_, born, known, view, last, op, commit, client, number, nonce, text, full, base, state, entries⟩) (hkx : kb ≠ xb) (hkz : kb < w0.heap.size) (hkb : BC w kb (List.replicate known.length (.int .i64 0))) (h : RM w0 wS w rb ib xb kb (restB ⟨2, from_, born, known, view, last, op, commit, client, number, nonce, text, full, base, state, entries⟩ ++ r) [.int .i64 2, .int .i64 0, .int .i64 0, .slice (some ⟨kb, 0, none⟩) known.length known.length, .int .i64 0, .int .i64 0, .int .i64 0, .int .i64 0, .int .i64 0, .int .i64 0, .int .i64 0, .string ⟨#[]⟩, .bool false, .int .i64 0, .string ⟨#[]⟩, .slice none 0 0]) :
    Calls Tryd.prog 20 #[.pointer (some ⟨xb, 0, none⟩), .pointer (some ⟨rb, 0, none⟩)] w (RMA w0 rb ib xb kb r (proj ⟨2, from_, born, known, view, last, op, commit, client, number, nonce, text, full, base, state, entries⟩) (.slice (some ⟨kb, 0, none⟩) known.length known.length)) := by
  obtain ⟨x, rfl⟩ := one_of (hW.one rfl)
  have hx : entG x = true := List.all_eq_true.1 hW.ents _ (by simp)
  have HR : restB ⟨2, from_, born, known, view, last, op, commit, client, number, nonce, text, full, base, state, [x]⟩ ++ r = Oct.enc from_ ++ (Oct.enc born ++ (Oct.ints known ++ (Oct.enc view ++ (Oct.enc op ++ (Oct.enc commit ++ (entB x ++ (r))))))) := by simp [restB, headB, lets, letB]
  have hw0 := h.frm.size
  replace h := (h.eq HR rfl).restart
  clear HR
  have HP : proj ⟨2, from_, born, known, view, last, op, commit, client, number, nonce, text, full, base, state, [x]⟩ = ⟨2, from_, born, known, view, 0, op, commit, 0, 0, 0, [], false, 0, [], [x]⟩ := by simp [proj, has, lets]
  rw [HP]
  clear HP
  have q0 := h.x.cell
  go_enter Tryd.func20, Tryd.ntmps20
  go_wp2_with fail
  refine (h.num (hW.from_ (by simp)) 1 (by simp)).mono ?_
  rintro e1 w1 ⟨rfl, r1⟩
  have f1 : RM w0 w w1 rb ib xb kb (Oct.enc born ++ (Oct.ints known ++ (Oct.enc view ++ (Oct.enc op ++ (Oct.enc commit ++ (entB x ++ (r))))))) [.int .i64 2, .int .i64 from_, .int .i64 0, .slice (some ⟨kb, 0, none⟩) known.length known.length, .int .i64 0, .int .i64 0, .int .i64 0, .int .i64 0, .int .i64 0, .int .i64 0, .int .i64 0, .string ⟨#[]⟩, .bool false, .int .i64 0, .string ⟨#[]⟩, .slice none 0 0] := r1
  clear r1 h q0
  have q1 := f1.x.cell
  go_wp2_with fail
  refine (f1.num hW.born 2 (by simp)).mono ?_
  rintro e2 w2 ⟨rfl, r2⟩
  have f2 : RM w0 w w2 rb ib xb kb (Oct.ints known ++ (Oct.enc view ++ (Oct.enc op ++ (Oct.enc commit ++ (entB x ++ (r)))))) [.int .i64 2, .int .i64 from_, .int .i64 born, .slice (some ⟨kb, 0, none⟩) known.length known.length, .int .i64 0, .int .i64 0, .int .i64 0, .int .i64 0, .int .i64 0, .int .i64 0, .int .i64 0, .string ⟨#[]⟩, .bool false, .int .i64 0, .string ⟨#[]⟩, .slice none 0 0] := r2
  clear r2 f1 q1
  have q2 := f2.x.cell
  have hk2 : BC w2 kb (List.replicate known.length (.int .i64 0)) := hkb.frm (Nat.lt_of_lt_of_le hkz hw0) f2.mov (fun e => by rcases e with e | e; exact f2.n5 e.symm; exact hkx e)
  have hk7 := hW.klen
  dsimp only at hk7
  go_wp2_with fail
  go_loopw [4, 25] (fun _ i wr => ∃ k : Nat, k ≤ known.length ∧ i = .int .i64 (k : Int) ∧ RM w0 wr wr rb ib xb kb (Oct.ints (known.drop k) ++ (Oct.enc view ++ (Oct.enc op ++ (Oct.enc commit ++ (entB x ++ (r)))))) [.int .i64 2, .int .i64 from_, .int .i64 born, .slice (some ⟨kb, 0, none⟩) known.length known.length, .int .i64 0, .int .i64 0, .int .i64 0, .int .i64 0, .int .i64 0, .int .i64 0, .int .i64 0, .string ⟨#[]⟩, .bool false, .int .i64 0, .string ⟨#[]⟩, .slice none 0 0] ∧ BC wr kb (intsV (known.take k) ++ List.replicate (known.length - k) (.int .i64 0)))
    (fun _ i _ => known.length - (intOf i).toNat)
  case atStart => exact ⟨0, by omega, rfl, by simpa using f2.restart, by simpa [intsV] using hk2⟩
  case round =>
   obtain ⟨k, hk, rfl, hq, hbq⟩ := hrel
   clear q2 f2 hk2
   have q3 := hq.x.cell
   by_cases hkl : k < known.length
   · have hnk : Msg.num known[k] = true := List.all_eq_true.1 hW.known _ (List.getElem_mem hkl)
     have hq' := hq.eq (ints_drop known k hkl _) rfl
     clear hq
     have HN := hid (hq'.numK hbq hkx hnk k (by simp [intsV]; omega))
     rw [nums_set known k hkl] at HN
     clear hq'
     go_wp2_with fail
     refine HN.out.mono ?_
     rintro e3 w3 ⟨rfl, f3, b3⟩
     go_wp2_with fail
     exact ⟨⟨k + 1, by omega, by go_num, f3, b3⟩, by simp [intOf]; omega⟩
   · obtain rfl : k = known.length := by omega
     rw [List.take_length, Nat.sub_self, List.replicate_zero, List.append_nil] at hbq
     have h3 : RM w0 wr wr rb ib xb kb (Oct.enc view ++ (Oct.enc op ++ (Oct.enc commit ++ (entB x ++ (r))))) [.int .i64 2, .int .i64 from_, .int .i64 born, .slice (some ⟨kb, 0, none⟩) known.length known.length, .int .i64 0, .int .i64 0, .int .i64 0, .int .i64 0, .int .i64 0, .int .i64 0, .int .i64 0, .string ⟨#[]⟩, .bool false, .int .i64 0, .string ⟨#[]⟩, .slice none 0 0] := by rw [List.drop_length] at hq; exact hq
     clear hq
     have hrd : Rd wr (.slice (some ⟨kb, 0, none⟩) known.length known.length) known.length 1 (intsV known) := hbq.rd
     have hkR : ∀ g, (Value.slice (some ⟨kb, 0, none⟩) known.length known.length).ownBlock = some g → ¬ R2 ib xb g := fun g hg e => by
       simp only [Value.ownBlock, Option.some.injEq] at hg
       subst hg
       rcases e with e | e
       · exact h3.n5 e.symm
       · exact hkx e
     go_wp2_with fail
     refine (RM.views2 from_ born known view last op commit client number nonce text full base state [x] x hx hW h3).mono ?_
     rintro e4 w4 ⟨rfl, ev, f4, hel, heo⟩
     have q4 := f4.x.cell
     go_wp2_with fail
     refine (tail_at ⟨2, from_, born, [], view, 0, op, commit, 0, 0, 0, [], false, 0, [], []⟩ _ _ false (by simp [Msg.tail]) _).mono ?_
     rintro e5 w5 ⟨rfl, ht5⟩
     have f5 := f4.no ht5
     have q5 := f5.x.cell
     clear f4 q4
     replace hel := hel.frm (fun _ _ => rfl) ht5 (fun _ _ h => h)
     go_wp2_with fail
     go_end0
     exact ⟨rfl, ev, f5.restart, hel, fun g hg => Nat.le_trans f5.base.size (heo g hg), hrd.frm f5.mov hkR⟩

set_option maxRecDepth 100000 in
set_option maxHeartbeats 2000000 in
theorem RM.all3 {w0 wS w : World} {rb ib xb kb : Nat} {r : List UInt8} (from_ born : Int) (known : List Int) (view last op commit client number nonce : Int) (text : List UInt8) (full : Bool) (base : Int) (state : List UInt8) (entries : List Ent) (hW : WOk ⟨3, from_, born, known, view, last, op, commit, client, number, nonce, text, full, base, state, entries⟩) (hkx : kb ≠ xb) (hkz : kb < w0.heap.size) (hkb : BC w kb (List.replicate known.length (.int .i64 0))) (h : RM w0 wS w rb ib xb kb (restB ⟨3, from_, born, known, view, last, op, commit, client, number, nonce, text, full, base, state, entries⟩ ++ r) [.int .i64 3, .int .i64 0, .int .i64 0, .slice (some ⟨kb, 0, none⟩) known.length known.length, .int .i64 0, .int .i64 0, .int .i64 0, .int .i64 0, .int .i64 0, .int .i64 0, .int .i64 0, .string ⟨#[]⟩, .bool false, .int .i64 0, .string ⟨#[]⟩, .slice none 0 0]) :
    Calls Tryd.prog 20 #[.pointer (some ⟨xb, 0, none⟩), .pointer (some ⟨rb, 0, none⟩)] w (RMA w0 rb ib xb kb r (proj ⟨3, from_, born, known, view, last, op, commit, client, number, nonce, text, full, base, state, entries⟩) (.slice (some ⟨kb, 0, none⟩) known.length known.length)) := by
  have HR : restB ⟨3, from_, born, known, view, last, op, commit, client, number, nonce, text, full, base, state, entries⟩ ++ r = Oct.enc from_ ++ (Oct.enc born ++ (Oct.ints known ++ (Oct.enc view ++ (Oct.enc op ++ (r))))) := by simp [restB, headB, lets, letB]
  have hw0 := h.frm.size
  replace h := (h.eq HR rfl).restart
  clear HR
  have HP : proj ⟨3, from_, born, known, view, last, op, commit, client, number, nonce, text, full, base, state, entries⟩ = ⟨3, from_, born, known, view, 0, op, 0, 0, 0, 0, [], false, 0, [], []⟩ := by simp [proj, has, lets]
  rw [HP]
  clear HP
  have q0 := h.x.cell
  go_enter Tryd.func20, Tryd.ntmps20
  go_wp2_with fail
  refine (h.num (hW.from_ (by simp)) 1 (by simp)).mono ?_
  rintro e1 w1 ⟨rfl, r1⟩
  have f1 : RM w0 w w1 rb ib xb kb (Oct.enc born ++ (Oct.ints known ++ (Oct.enc view ++ (Oct.enc op ++ (r))))) [.int .i64 3, .int .i64 from_, .int .i64 0, .slice (some ⟨kb, 0, none⟩) known.length known.length, .int .i64 0, .int .i64 0, .int .i64 0, .int .i64 0, .int .i64 0, .int .i64 0, .int .i64 0, .string ⟨#[]⟩, .bool false, .int .i64 0, .string ⟨#[]⟩, .slice none 0 0] := r1
  clear r1 h q0
  have q1 := f1.x.cell
  go_wp2_with fail
  refine (f1.num hW.born 2 (by simp)).mono ?_
  rintro e2 w2 ⟨rfl, r2⟩
  have f2 : RM w0 w w2 rb ib xb kb (Oct.ints known ++ (Oct.enc view ++ (Oct.enc op ++ (r)))) [.int .i64 3, .int .i64 from_, .int .i64 born, .slice (some ⟨kb, 0, none⟩) known.length known.length, .int .i64 0, .int .i64 0, .int .i64 0, .int .i64 0, .int .i64 0, .int .i64 0, .int .i64 0, .string ⟨#[]⟩, .bool false, .int .i64 0, .string ⟨#[]⟩, .slice none 0 0] := r2
  clear r2 f1 q1
  have q2 := f2.x.cell
  have hk2 : BC w2 kb (List.replicate known.length (.int .i64 0)) := hkb.frm (Nat.lt_of_lt_of_le hkz hw0) f2.mov (fun e => by rcases e with e | e; exact f2.n5 e.symm; exact hkx e)
  have hk7 := hW.klen
  dsimp only at hk7
  go_wp2_with fail
  go_loopw [4, 25] (fun _ i wr => ∃ k : Nat, k ≤ known.length ∧ i = .int .i64 (k : Int) ∧ RM w0 wr wr rb ib xb kb (Oct.ints (known.drop k) ++ (Oct.enc view ++ (Oct.enc op ++ (r)))) [.int .i64 3, .int .i64 from_, .int .i64 born, .slice (some ⟨kb, 0, none⟩) known.length known.length, .int .i64 0, .int .i64 0, .int .i64 0, .int .i64 0, .int .i64 0, .int .i64 0, .int .i64 0, .string ⟨#[]⟩, .bool false, .int .i64 0, .string ⟨#[]⟩, .slice none 0 0] ∧ BC wr kb (intsV (known.take k) ++ List.replicate (known.length - k) (.int .i64 0)))
    (fun _ i _ => known.length - (intOf i).toNat)
  case atStart => exact ⟨0, by omega, rfl, by simpa using f2.restart, by simpa [intsV] using hk2⟩
  case round =>
   obtain ⟨k, hk, rfl, hq, hbq⟩ := hrel
   clear q2 f2 hk2
   have q3 := hq.x.cell
   by_cases hkl : k < known.length
   · have hnk : Msg.num known[k] = true := List.all_eq_true.1 hW.known _ (List.getElem_mem hkl)
     have hq' := hq.eq (ints_drop known k hkl _) rfl
     clear hq
     have HN := hid (hq'.numK hbq hkx hnk k (by simp [intsV]; omega))
     rw [nums_set known k hkl] at HN
     clear hq'
     go_wp2_with fail
     refine HN.out.mono ?_
     rintro e3 w3 ⟨rfl, f3, b3⟩
     go_wp2_with fail
     exact ⟨⟨k + 1, by omega, by go_num, f3, b3⟩, by simp [intOf]; omega⟩
   · obtain rfl : k = known.length := by omega
     rw [List.take_length, Nat.sub_self, List.replicate_zero, List.append_nil] at hbq
     have h3 : RM w0 wr wr rb ib xb kb (Oct.enc view ++ (Oct.enc op ++ (r))) [.int .i64 3, .int .i64 from_, .int .i64 born, .slice (some ⟨kb, 0, none⟩) known.length known.length, .int .i64 0, .int .i64 0, .int .i64 0, .int .i64 0, .int .i64 0, .int .i64 0, .int .i64 0, .string ⟨#[]⟩, .bool false, .int .i64 0, .string ⟨#[]⟩, .slice none 0 0] := by rw [List.drop_length] at hq; exact hq
     clear hq
     have hrd : Rd wr (.slice (some ⟨kb, 0, none⟩) known.length known.length) known.length 1 (intsV known) := hbq.rd
     have hkR : ∀ g, (Value.slice (some ⟨kb, 0, none⟩) known.length known.length).ownBlock = some g → ¬ R2 ib xb g := fun g hg e => by
       simp only [Value.ownBlock, Option.some.injEq] at hg
       subst hg
       rcases e with e | e
       · exact h3.n5 e.symm
       · exact hkx e
     go_wp2_with fail
     refine (RM.views3 from_ born known view last op commit client number nonce text full base state entries hW h3).mono ?_
     rintro e4 w4 ⟨rfl, f4⟩
     have q4 := f4.x.cell
     go_wp2_with fail
     refine (tail_at ⟨3, from_, born, [], view, 0, op, 0, 0, 0, 0, [], false, 0, [], []⟩ _ _ false (by simp [Msg.tail]) _).mono ?_
     rintro e5 w5 ⟨rfl, ht5⟩
     have f5 := f4.no ht5
     have q5 := f5.x.cell
     clear f4 q4
     go_wp2_with fail
     go_end0
     exact ⟨rfl, _, f5.restart, ⟨.inl ⟨rfl, none, 0, rfl⟩⟩, (fun g hg => by cases hg), hrd.frm f5.mov hkR⟩

end Go.Proofs.YtaejcejfpcjifaaDoor
