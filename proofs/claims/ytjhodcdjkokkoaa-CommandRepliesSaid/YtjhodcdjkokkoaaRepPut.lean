/- The walk of command.PutReply. -/
import Derived.Test.YtjhodcdjkokkoaaChainB
import Derived.Test.YtjhodcdjkokkoaaStore7
import Derived.Test.YtjhodcdjkokkoaaMark2
namespace Go.Proofs.Ytjhodcdjkokkoaa
open Go.RowKit

theorem Rep.put_big {r : Rp} (h : Rep.big r = true) : Rep.put r = [] := by unfold Rep.put; rw [h]; rfl
theorem Rep.put_not {r : Rp} (h : Rep.big r = false) : Rep.put r = if Rep.bad r then [] else Rep.enc r := by unfold Rep.put; rw [h]; rfl
theorem Rep.puts_small (l : List Nat) : ∀ s ∈ l.map Mk.put, s.length ≤ 281474976710656 := by
  intro s hs
  obtain ⟨n, -, rfl⟩ := List.mem_map.1 hs
  rw [Mk.put_length]
  decide
theorem Rep.puts_snoc {l : List Nat} {k : Nat} (hk : k < l.length) : strsV ((l.take (k + 1)).map Mk.put) = strsV ((l.take k).map Mk.put) ++ [.string ⟨(Mk.put l[k]).toArray⟩] := by
  rw [List.take_succ_eq_append_getElem hk, List.map_append]
  simp [strsV]
theorem info_str : (Try.prog.info? 9).map (fun i => (i.zero, i.size, i.bytes)) = some (some (.string ByteArray.empty), 1, 16) := by kernel_rfl

set_option maxRecDepth 100000 in
set_option maxHeartbeats 4000000 in
theorem reput_any (r : Rp) (tv mv : Value) (w : World) (h1 : r.text.length ≤ 281474976710656) (h2 : ∀ s ∈ r.texts, s.length ≤ 281474976710656) (h3 : ∀ n ∈ r.marks, n < 18446744073709551616) (hT : Rd w tv r.texts.length 1 (strsV r.texts)) (hM : Rd w mv r.marks.length 1 (fltV r.marks)) :
    Calls Try.prog 20 #[rpV r tv mv] w fun e w' => e = .returned (.string ⟨(Rep.put r).toArray⟩) ∧ Frm No w w' := by
  obtain ⟨tao, tcp, rfl⟩ := hT.shape
  obtain ⟨mao, mcp, rfl⟩ := hM.shape
  by_cases b1 : 4096 < r.texts.length
  · have hp := Rep.put_big (r := r) (by simp [Rep.big, b1])
    rw [hp]
    have b1' : (4096 : Int) < (r.texts.length : Int) := by omega
    clear hT hM h1 h2 h3 hp
    unfold rpV
    go_enter Try.func20, Try.ntmps20
    go_wp2_with fail
    go_ret
    exact ⟨rfl, (Frm.refl No w).alloc _⟩
  · have b1' : ¬ (4096 : Int) < (r.texts.length : Int) := by omega
    by_cases b2 : 4096 < r.marks.length
    · have hp := Rep.put_big (r := r) (by simp [Rep.big, b2])
      rw [hp]
      have b2' : (4096 : Int) < (r.marks.length : Int) := by omega
      clear hT hM h1 h2 h3 hp
      unfold rpV
      go_enter Try.func20, Try.ntmps20
      go_wp2_with fail
      go_ret
      exact ⟨rfl, (Frm.refl No w).alloc _⟩
    · have hp := Rep.put_not (r := r) (by simp [Rep.big]; omega)
      rw [hp]
      have b2' : ¬ (4096 : Int) < (r.marks.length : Int) := by omega
      obtain ⟨R, hR⟩ : ∃ R, (if Rep.bad r then [] else Rep.enc r) = R := ⟨_, rfl⟩
      rw [hR]
      have hR := hid hR
      clear hp
      obtain ⟨i0, gi, gz0, gz1, gz2⟩ := info_parts info_str
      have HRT := hid (fun w1 (hf : Frm No w w1) => hT.frm hf (fun _ _ h => h))
      have HRM := hid (fun w1 (hf : Frm No w w1) => hM.frm hf (fun _ _ h => h))
      have H3 := hid h3
      have HT5 := hid (fun (w0 w1 : World) (B : Nat) (v : Value) (l : List UInt8) (bd : Bool) (N : Nat) (h : ChainB w0 w1 B v l bd N) (hN : N ≤ 17592186044416) (hr0 : Rd w0 (.slice tao r.texts.length tcp) r.texts.length 1 (strsV r.texts)) => h.texts (.slice tao r.texts.length tcp) r.texts hN (by omega) h2 (hr0.frm h.frm (fun _ _ h => h)) (h.apart hr0))
      clear hT hM h2 h3
      obtain ⟨k, line, col, count, text, texts, marks⟩ := r
      unfold rpV
      dsimp only at *
      go_enter Try.func20, Try.ntmps20
      have hA := (Frm.refl No w).alloc (.cells #[.int .i64 k, .int .i64 line, .int .i64 col, .int .i64 count, .string ⟨text.toArray⟩, .slice tao texts.length tcp, .slice mao marks.length mcp] 44)
      have hrA := HRT.out _ hA
      have c0 := ChainB.new (Frm.refl No (w.alloc (.cells #[.int .i64 k, .int .i64 line, .int .i64 col, .int .i64 count, .string ⟨text.toArray⟩, .slice tao texts.length tcp, .slice mao marks.length mcp] 44))) 63
      simp only [World.size_alloc] at c0
      go_wp2_with (first | (go_at_call 26; refine (HT5.out _ _ _ _ _ _ _ c5 (by omega) hrA).mono ?_; rintro e2 w6 ⟨rfl, v6, c6⟩; have q6 := c6.frm.box) | (go_at_call 25; refine (c4.text _ (by omega) h1).mono ?_; rintro e2 w5 ⟨rfl, v5, c5⟩; have q5 := c5.frm.box) | (go_at_call 24; refine (c3.int _ (by omega)).mono ?_; rintro e2 w4 ⟨rfl, v4, c4⟩; have q4 := c4.frm.box) | (go_at_call 24; refine (c2.int _ (by omega)).mono ?_; rintro e2 w3 ⟨rfl, v3, c3⟩; have q3 := c3.frm.box) | (go_at_call 24; refine (c1.int _ (by omega)).mono ?_; rintro e2 w2 ⟨rfl, v2, c2⟩; have q2 := c2.frm.box) | (go_at_call 24; refine (c0.int _ (by omega)).mono ?_; rintro e2 w1 ⟨rfl, v1, c1⟩; have q1 := c1.frm.box))
      have HL := hid (fun k (hk : k < marks.length) => Rep.puts_snoc hk)
      have HE1 : Hid ([] ++ Oct.enc k ++ Oct.enc line ++ Oct.enc col ++ Oct.enc count ++ Oct.text text ++ (Oct.enc texts.length ++ Oct.texts texts) ++ (Oct.enc (marks.map Mk.put).length ++ Oct.texts (marks.map Mk.put)) = Rep.enc ⟨k, line, col, count, text, texts, marks⟩) := hid (by simp only [Rep.enc, List.nil_append, List.length_map])
      have HE2 : Hid (((((((false || (Oct.enc k).isEmpty) || (Oct.enc line).isEmpty) || (Oct.enc col).isEmpty) || (Oct.enc count).isEmpty) || decide (65536 < text.length)) || Oct.badTexts texts || Oct.badTexts (marks.map Mk.put)) = Rep.bad ⟨k, line, col, count, text, texts, marks⟩) := hid (by simp only [Rep.bad, Bool.false_or, Rep.badTexts_puts, Bool.or_false])
      have HA := hid hA
      have C6 := hid c6
      have HPU := hid (Rep.puts_small marks)
      have hlm : ((marks.take marks.length).map Mk.put) = marks.map Mk.put := by rw [List.take_length]
      clear c0 c1 c2 c3 c4 c5 c6 q1 q2 q3 q4 q5 hA hrA HT5 HRT h1
      go_loopw [4, 40] (fun lv i wr => ∃ k : Nat, k ≤ marks.length ∧ i = .int .i64 (k : Int) ∧ Frm No w6 wr ∧ wr.ownsRow w6.heap.size 9 1 lv k (strsV ((marks.take k).map Mk.put))) (fun _ i _ => marks.length - (intOf i).toNat)
      case atStart => exact ⟨0, by omega, rfl, Frm.refl _ _, World.ownsRow_nil _ _ _ _⟩
      case round =>
        obtain ⟨j, hj, rfl, hf, hom⟩ := hrel
        clear q6
        have q6 := (C6.out.no hf).frm.box
        by_cases hjl : j < marks.length
        · have hjz : (j : Int) < (marks.length : Int) := by omega
          obtain ⟨mb, mo, rfl, hmc⟩ := (HRM.out _ (HA.out.thenNo (C6.out.no hf).frm)).at_ (by omega)
          have hmk : wr.cell? ⟨mb, mo + j, none⟩ = some (.float .f64 marks[j]) := by rw [hmc j (by omega)]; simp [fltV]
          clear hmc
          have HP := hid (fun w => mput_any marks[j] (H3.out _ (List.getElem_mem hjl)) w)
          have HS := hid (HL.out j hjl)
          clear HRM H3 HL
          generalize marks[j] = x at *
          go_wp2_with (first | (go_at_call 49; refine (HP.out _).mono ?_; rintro q1 w7 ⟨rfl, hf7⟩; have hom7 := hf7.row hom (fun _ _ h => h); have hz7 := (hf.thenNo hf7).size) | (at_builtin; refine wpList_push1 _ rfl (.tmp 44) (.tmp 47) 22 rfl w6.heap.size 9 i0 _ 16 Try.underlying22 gi gz0 gz1 gz2 rfl u4 j _ rfl hom7 (.string ⟨(Mk.put x).toArray⟩) rfl rfl (by omega) (by omega) hz7 ?_; intro u1 wa hown hfu hu hz2))
          have hfa : Frm No w6 wa := (hf.thenNo hf7).trans hfu (fun _ _ h => h) (fun i hi e => by have := (hom7.lt i e).1; omega)
          refine ⟨⟨j + 1, by omega, by go_num, hfa, ?_⟩, by simp [intOf]; omega⟩
          rw [HS.out]
          exact hown
        · obtain rfl : j = marks.length := by omega
          rw [hlm] at hom
          have hml : (marks.map Mk.put).length = marks.length := by simp
          have hrd := Rd.ofOwn hom
          obtain ⟨lao, lcp, rfl⟩ := ownsRow_shape hom
          have cw := C6.out.no hf
          have HC : Calls Try.prog 26 #[.pointer (some ⟨w.heap.size + 1, 0, none⟩), .slice lao marks.length lcp] wr (ChainBP (w.alloc (.cells #[.int .i64 k, .int .i64 line, .int .i64 col, .int .i64 count, .string ⟨text.toArray⟩, .slice tao texts.length tcp, .slice mao marks.length mcp] 44)) (w.heap.size + 1) (Rep.enc ⟨k, line, col, count, text, texts, marks⟩) (Rep.bad ⟨k, line, col, count, text, texts, marks⟩) 9000000000) := by
            refine (cw.texts (.slice lao marks.length lcp) (marks.map Mk.put) (by omega) (by omega) HPU.out (by rw [hml]; exact hrd) (fun q hq _ h => ?_)).mono ?_
            · have h1 := (hom.lt q hq).1
              have h2 := C6.out.out q h
              omega
            · rintro e2 w8 ⟨rfl, v8, c8⟩
              rw [HE1.out, HE2.out] at c8
              exact ⟨rfl, v8, c8.at_, c8.hB, c8.ge, c8.frm, Nat.le_trans c8.len (by omega)⟩
          have HC' := hid HC
          have HR2 : Hid ((if Rep.bad ⟨k, line, col, count, text, texts, marks⟩ = true then [] else Rep.enc ⟨k, line, col, count, text, texts, marks⟩) = R) := hid hR.out
          clear HC C6 cw HE1 HE2 HPU hrd hml HRM H3 HL hR
          generalize Rep.enc ⟨k, line, col, count, text, texts, marks⟩ = E at *
          generalize Rep.bad ⟨k, line, col, count, text, texts, marks⟩ = Bd at *
          go_wp2_with (first | (go_at_call 26; refine HC'.out.mono ?_; rintro q1 w8 ⟨rfl, v8, c8⟩) | (go_at_call 27; refine c8.bytes.mono ?_; rintro q1 w9 ⟨rfl, rfl⟩))
          try rw [HR2.out]
          go_ret
          exact ⟨rfl, HA.out.thenNo c8.frm⟩
end Go.Proofs.Ytjhodcdjkokkoaa
