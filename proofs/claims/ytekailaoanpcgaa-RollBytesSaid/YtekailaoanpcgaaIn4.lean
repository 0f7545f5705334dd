/- The walks of octets.In's Ints, Texts. -/
import Derived.Test.YtekailaoanpcgaaIn3
namespace Go.Proofs.Ytekailaoanpcgaa
open Go.RowKit

theorem info_int : (Try.prog.info? 3).map (fun i => (i.zero, i.size, i.bytes)) = some (some (.int .i64 0), 1, 8) := by kernel_rfl
theorem info_string : (Try.prog.info? 9).map (fun i => (i.zero, i.size, i.bytes)) = some (some (.string ByteArray.empty), 1, 16) := by kernel_rfl

/-- A list was read: its cells lie in new memory. -/
def ListP (el : TypeId) (b : Nat) (w : World) (vs : List Value) (x : List UInt8 × Int) (r : Ending) (w' : World) : Prop :=
  ∃ v, r = .returned v ∧ w'.ownsRow w.heap.size el 1 v vs.length vs ∧ InAt w' b x.1 x.2 ∧ Frm (One b) w w'
theorem ListP_mk {α : Type} {f : α → Value} {el : TypeId} {b : Nat} {w : World} {v v' : Value} {x : List α × List UInt8 × Int} {l : List α} {s : List UInt8} {e : Int} {w' : World} (hv : v' = v) (hx : x = (l, s, e))
    (hown : w'.ownsRow w.heap.size el 1 v l.length (l.map f)) (ha : InAt w' b s e) (hf : Frm (One b) w w') : ListP el b w (x.1.map f) x.2 (.returned v') w' := by
  subst hv hx
  exact ⟨_, rfl, by simpa using hown, ha, hf⟩

set_option maxRecDepth 100000 in
set_option maxHeartbeats 400000 in
theorem in_texts (b : Nat) (most : Int) (s : List UInt8) (e : Int) (w : World) (h : InAt w b s e) (hl : s.length ≤ 281474976710656) :
    Calls Try.prog 44 #[.pointer (some ⟨b, 0, none⟩), .int .i64 most] w (ListP 9 b w (strsV (Oct.rTexts most s e).1) (Oct.rTexts most s e).2) := by
  by_cases he : e = 0
  · subst he
    have HC := hid (fun w (h : InAt w b s 0) => in_size b most s 0 w h hl)
    have hq : Oct.rTexts most s 0 = if (Oct.rSize most s 0).2.2 = 0 then Oct.nTexts (Oct.rSize most s 0).1.toNat (Oct.rSize most s 0).2.1 [] else ([], (Oct.rSize most s 0).2.1, (Oct.rSize most s 0).2.2) := rfl
    have hn := rSize_in most s 0
    have hsl := rSize_len most s 0
    obtain ⟨⟨n, s1, e1⟩, hx⟩ : ∃ x, Oct.rSize most s 0 = x := ⟨_, rfl⟩
    rw [hx] at hq HC hn hsl
    clear hx
    simp only at hq HC hn hsl
    obtain ⟨hn1, hn2, hn3, -⟩ := hn
    by_cases he1 : e1 = 0
    · subst he1
      rw [if_pos rfl] at hq
      obtain ⟨m, rfl⟩ := Int.eq_ofNat_of_zero_le hn1
      rw [Int.toNat_natCast] at hq
      have HQ := hid hq
      clear hn3 hq hn1
      have hm : m ≤ 65536 := by omega
      clear hn2
      obtain ⟨i0, hi, hz0, hz1, hz2⟩ := info_parts info_string
      go_enter Try.func44, Try.ntmps44
      go_wp2_with fail
      refine (ready_yes b _ _ h).mono ?_
      rintro r w1 ⟨rfl, rfl⟩
      go_wp2_with fail
      refine (HC.out _ h).mono ?_
      rintro r w2 ⟨rfl, ha, hf⟩
      go_wp2_with fail
      go_loopw [5, 12] (fun v i wr => ∃ (k : Nat) (sk : List UInt8) (acc : List (List UInt8)), k ≤ m ∧ i = .int .i64 (k : Int) ∧ acc.length = k ∧ sk.length ≤ 281474976710656 ∧ InAt wr b sk 0 ∧ wr.ownsRow w.heap.size 9 1 v acc.length (strsV acc) ∧ Frm (One b) w wr ∧ Oct.nTexts (m - k) sk acc = Oct.rTexts most s 0)
        (fun _ i _ => m - (intOf i).toNat)
      case atStart => exact ⟨0, s1, [], by omega, rfl, rfl, by omega, ha, World.ownsRow_nil _ _ _ _, hf, HQ.out.symm⟩
      case round =>
        obtain ⟨k, sk, acc, hk, rfl, hacc, hsk, hak, hown, hfk, hrun⟩ := hrel
        have hlt := h.lt
        have hapb : u5.ownBlock ≠ some b := fun e => by have := (hown.lt b e).1; omega
        have HRUN := hid hrun
        have HACC := hid hacc
        have haccle : acc.length ≤ 65536 := by omega
        clear hrun hacc
        by_cases hkm : k < m
        · have hnx : Oct.nTexts (m - k) sk acc = if (Oct.rText sk 0).2.2 = 0 then Oct.nTexts (m - (k + 1)) (Oct.rText sk 0).2.1 (acc ++ [(Oct.rText sk 0).1]) else ([], (Oct.rText sk 0).2.1, (Oct.rText sk 0).2.2) := by
            rw [show m - k = (m - (k + 1)) + 1 by omega]; rfl
          have HI := hid (in_text b sk 0 wr hak hsk)
          have hrl := (rText_len sk 0).1
          obtain ⟨⟨x, s2, e2⟩, hx⟩ : ∃ x, Oct.rText sk 0 = x := ⟨_, rfl⟩
          rw [hx] at hnx HI hrl
          simp only at hnx HI hrl
          clear hx
          by_cases he2 : e2 = 0
          · subst he2
            rw [if_pos rfl] at hnx
            have HNX := hid hnx
            clear hnx
            go_wp2_with (first | (go_at_call 42; refine HI.out.mono ?_; rintro r w3 ⟨rfl, ha3, hf3⟩; have hown3 := hf3.row hown (fun k hk e => hapb (hk.trans (congrArg some e))); have hsz3 := hf3.size; have hszk := hfk.size) | (at_builtin; refine wpList_push1 _ rfl _ _ 46 rfl w.heap.size 9 i0 _ 16 Try.underlying46 hi hz0 hz1 hz2 rfl u5 acc.length (strsV acc) rfl hown3 _ rfl rfl (by omega) (by omega) (by omega) ?_; intro v4 w4 hown4 hf4 hv4 hs4; have ha4 := ha3.frm hf4 hapb) | (go_at_call 82; refine (ready_yes b _ _ ha4).mono ?_; rintro r w5 ⟨rfl, rfl⟩))
            refine ⟨⟨k + 1, s2, acc ++ [x], by omega, by go_num, by simp [HACC.out], by omega, ha4, ?_, ?_, ?_⟩, by simp [intOf]; omega⟩
            · simpa [strsV] using hown4
            · refine (hfk.then_ hf3).trans hf4 (fun _ _ h => h) (fun i hi h => ?_)
              have := (hown3.lt i h).1
              omega
            · rw [← HNX.out]; exact HRUN.out
          · rw [if_neg he2] at hnx
            have HNX := hid hnx
            have he' : (e2 == 0) = false := by simpa using he2
            clear hnx he2
            go_wp2_with (first | (go_at_call 42; refine HI.out.mono ?_; rintro r w3 ⟨rfl, ha3, hf3⟩; have hown3 := hf3.row hown (fun k hk e => hapb (hk.trans (congrArg some e))); have hsz3 := hf3.size; have hszk := hfk.size) | (at_builtin; refine wpList_push1 _ rfl _ _ 46 rfl w.heap.size 9 i0 _ 16 Try.underlying46 hi hz0 hz1 hz2 rfl u5 acc.length (strsV acc) rfl hown3 _ rfl rfl (by omega) (by omega) (by omega) ?_; intro v4 w4 hown4 hf4 hv4 hs4; have ha4 := ha3.frm hf4 hapb) | (go_at_call 82; refine (ready_no b _ _ _ ha4 he').mono ?_; rintro r w5 ⟨rfl, rfl⟩))
            go_ret
            refine ListP_mk (v := .slice none 0 0) rfl (x := Oct.rTexts most s 0) (l := []) (s := s2) (e := e2) ?_ (World.ownsRow_nil _ _ _ _) ha4 ?_
            · rw [← HRUN.out, HNX.out]
            · refine (hfk.then_ hf3).trans hf4 (fun _ _ h => h) (fun i hi h => ?_)
              have := (hown3.lt i h).1
              omega
        · obtain rfl : k = m := by omega
          go_wp2_with fail
          go_ret
          refine ListP_mk rfl (x := Oct.rTexts most s 0) (l := acc) (s := sk) (e := 0) ?_ hown hak hfk
          rw [← HRUN.out, Nat.sub_self]
          rfl
    · have hn0 := hn3 he1
      subst hn0
      rw [if_neg he1] at hq
      have HQ := hid hq
      clear hq hn3 hn1 hn2
      go_enter Try.func44, Try.ntmps44
      go_wp2_with fail
      refine (ready_yes b _ _ h).mono ?_
      rintro r w1 ⟨rfl, rfl⟩
      go_wp2_with fail
      refine (HC.out _ h).mono ?_
      rintro r w2 ⟨rfl, ha, hf⟩
      go_wp2_with fail
      go_loopw [5, 12] (fun v i wr => i = .int .i64 0 ∧ v = .slice none 0 0 ∧ InAt wr b s1 e1 ∧ Frm (One b) w wr) (fun _ i _ => 0)
      case atStart => exact ⟨rfl, rfl, ha, hf⟩
      case round =>
        obtain ⟨rfl, rfl, hak, hfk⟩ := hrel
        go_wp2_with fail
        go_ret
        exact ListP_mk rfl (x := Oct.rTexts most s 0) (l := []) HQ.out (World.ownsRow_nil _ _ _ _) hak hfk
  · have HQ : Hid (Oct.rTexts most s e = ([], s, e)) := by
      show _ = _
      have hs : Oct.rSize most s e = (0, s, e) := if_neg he
      unfold Oct.rTexts
      rw [hs]
      exact if_neg he
    have he' : (e == 0) = false := by simpa using he
    clear he
    go_enter Try.func44, Try.ntmps44
    go_wp2_with (go_at_call 82; refine (ready_no b _ _ _ h he').mono ?_; rintro r w3 ⟨rfl, rfl⟩)
    go_ret
    exact ListP_mk rfl (x := Oct.rTexts most s e) (l := []) HQ.out (World.ownsRow_nil _ _ _ _) h (Frm.refl _ _)

theorem in_texts_nil (most : Int) (w : World) :
    Calls Try.prog 44 #[.pointer none, .int .i64 most] w fun r w' => r = .returned (.slice none 0 0) ∧ w = w' := by
  go_enter Try.func44, Try.ntmps44
  go_wp2_with (go_at_call 82; refine (ready_nil _).mono ?_; rintro r w1 ⟨rfl, rfl⟩)
  go_ret
  exact ⟨rfl, rfl⟩

end Go.Proofs.Ytekailaoanpcgaa
