/- lex.Scan: the tokens of a text. -/
import Derived.Test.YtebocnpbiiejmaaDoorTwG
import Derived.Deep.RegionHeld3
namespace Go.Proofs.YtebocnpbiiejmaaDoor
open Go.RowKit
theorem token_any (b n : Nat) (s : List UInt8) (tl : List Tp) (w : World) (h : ScT w b s n tl) (hl : s.length ≤ 65536) (hlt : n < s.length) :
    Calls Tryd.prog 21 #[.pointer (some ⟨b, 0, none⟩)] w (RedT w b n s tl (Gr.tok1 (s.drop n))) := by
  obtain ⟨c, hc⟩ : ∃ c, s[n] = c := ⟨_, rfl⟩
  have hd : s.drop n = c :: s.drop (n + 1) := by rw [List.drop_eq_getElem_cons hlt, hc]
  rw [hd]
  dsimp only [Gr.tok1]
  by_cases h1 : Gr.isLetter c = true
  · rw [if_pos h1]
    have := tok_letter b n s tl w h hl hlt c hc h1
    rw [hd] at this
    have e : ((nameOut (c :: s.drop (n + 1))).map fun p => ((⟨1, p.1⟩ : Gr.Tk), p.2)) = (if 32 < ((c :: s.drop (n + 1)).takeWhile Gr.inName).length then none else some (⟨1, (c :: s.drop (n + 1)).takeWhile Gr.inName⟩, (c :: s.drop (n + 1)).dropWhile Gr.inName)) := by
      unfold nameOut
      split <;> rfl
    rw [e] at this
    exact this
  · rw [if_neg h1]
    have h1' : Gr.isLetter c = false := by simpa using h1
    by_cases h2 : c = 39 ∨ c = 34
    · rw [if_pos h2]
      have := tok_quote b n s tl w h hl hlt c hc h1' h2
      have e : ((litOut (Gr.litS c [] (s.drop (n + 1)))).map fun p => ((⟨2, p.1⟩ : Gr.Tk), p.2)) = (match Gr.litS c [] (s.drop (n + 1)) with
          | none => none
          | some (t, r1) => if t = [] ∨ 16 < t.length then none else some (⟨2, t⟩, r1)) := by
        cases Gr.litS c [] (s.drop (n + 1)) with
        | none => rfl
        | some p =>
          dsimp only [litOut]
          split <;> rfl
      rw [e] at this
      exact this
    · rw [if_neg h2]
      by_cases h3 : c ∈ Gr.signs
      · rw [if_pos h3]
        exact tok_sign b n s tl w h hl hlt c hc h1' (fun e => h2 (Or.inl e)) (fun e => h2 (Or.inr e)) h3
      · rw [if_neg h3]
        exact tok_none b n s tl w h hl hlt c hc h1' (fun e => h2 (Or.inl e)) (fun e => h2 (Or.inr e)) h3
/-- the tokens of what is left, no blank ahead -/
def toksS (n : Nat) (l : List UInt8) : Option (List Gr.Tk) :=
  match l with
  | [] => some [⟨4, []⟩]
  | b :: r => match Gr.tok1 (b :: r) with
    | none => none
    | some (t, r1) => (Gr.toks n r1).map (t :: ·)
theorem toks_S (n : Nat) (l : List UInt8) : Gr.toks (n + 1) l = toksS n (Gr.skip false l) := by
  rw [Gr.toks_tok1]
  rfl
/-- how far the scanner is -/
def Upto (s : List UInt8) (n : Nat) (tl : List Tp) (R : Option (List Gr.Tk)) : Prop :=
  ∃ k, s.length - n ≤ k ∧ (toksS k (s.drop n)).map (tl.map (·.1) ++ ·) = R
theorem Upto.start {s : List UInt8} {n : Nat} (h : s.drop n = Gr.skip false s) : Upto s n [] (Gr.toks (s.length + 1) s) :=
  ⟨s.length, by omega, by rw [h, toks_S]; cases toksS s.length (Gr.skip false s) <;> rfl⟩
theorem Upto.stop {s : List UInt8} {n : Nat} {tl : List Tp} {R : Option (List Gr.Tk)} (h : Upto s n tl R) (hd : s.length ≤ n) : R = some (tl.map (·.1) ++ [⟨4, []⟩]) := by
  obtain ⟨k, -, h⟩ := h
  rw [List.drop_eq_nil_of_le hd] at h
  rw [← h]
  rfl
theorem Upto.fail {s : List UInt8} {n : Nat} {tl : List Tp} {R : Option (List Gr.Tk)} (h : Upto s n tl R) (hlt : n < s.length) (ht : Gr.tok1 (s.drop n) = none) : R = none := by
  obtain ⟨k, -, h⟩ := h
  rw [← h]
  rw [List.drop_eq_getElem_cons hlt] at ht ⊢
  dsimp only [toksS]
  rw [ht]
  rfl
theorem Upto.next {s : List UInt8} {n m m2 : Nat} {tl : List Tp} {R : Option (List Gr.Tk)} (h : Upto s n tl R) (hlt : n < s.length) {t : Gr.Tk} {r : List UInt8} (ht : Gr.tok1 (s.drop n) = some (t, r)) (hm : n < m) (hd : s.drop m = r) (hm2 : m ≤ m2) (hd2 : s.drop m2 = Gr.skip false (s.drop m)) (x y : Int) :
    Upto s m2 (tl ++ [(t, x, y)]) R := by
  obtain ⟨k, hk, h⟩ := h
  obtain ⟨j, rfl⟩ : ∃ j, k = j + 1 := ⟨k - 1, by omega⟩
  refine ⟨j, by omega, ?_⟩
  rw [← h, hd2, hd]
  rw [List.drop_eq_getElem_cons hlt] at ht ⊢
  have e : toksS (j + 1) (s[n] :: s.drop (n + 1)) = (Gr.toks (j + 1) r).map (t :: ·) := by
    dsimp only [toksS]
    rw [ht]
  rw [e, toks_S]
  cases toksS j (Gr.skip false r) with
  | none => rfl
  | some u =>
    show some ((tl ++ [(t, x, y)]).map (·.1) ++ u) = some (tl.map (·.1) ++ (t :: u))
    rw [List.map_append, List.append_assoc]
    rfl
/-- what Scan hands back -/
def Scanned (w : World) (R : Option (List Gr.Tk)) (e : Ending) (w' : World) : Prop :=
  Frm No w w' ∧ match R with
  | none => ∃ x y z : Int, z ≠ 0 ∧ e = .returned (.tuple #[.slice none 0 0, .agg #[.int .i64 x, .int .i64 y, .int .i64 z]])
  | some ts => ∃ (tl : List Tp) (v : Value), tl.map (·.1) = ts ∧ tl.length ≤ 65537 ∧ e = .returned (.tuple #[v, .agg #[.int .i64 0, .int .i64 0, .int .i64 0]]) ∧ w'.ownsRow w.heap.size 38 4 v tl.length (rows tokV tl)
theorem src_tok {w : World} {k : Int} {s : ByteArray} {x y : Int} (W : World) (hW : W.heap = (w.alloc (.cells #[.int .i64 k, .string s, .int .i64 x, .int .i64 y] 38)).heap) : Src Tryd.prog 4 34 (.slice (some ⟨w.heap.size, 0, none⟩) 1 1) 1 [.int .i64 k, .string s, .int .i64 x, .int .i64 y] W :=
  Src.ofSlice _ Tryd.underlying34 ⟨w.heap.size, 0, none⟩ 1 1 [.int .i64 k, .string s, .int .i64 x, .int .i64 y] rfl (fun j u hj => by
    have e : (⟨w.heap.size, 0, none⟩ : Addr).add j = ⟨w.heap.size, j, none⟩ := by rw [Addr.add_lit]; simp
    have e2 : W.cell? ⟨w.heap.size, j, none⟩ = (#[.int .i64 k, .string s, .int .i64 x, .int .i64 y] : Array Value)[j]? := by
      have : W.cell? ⟨w.heap.size, j, none⟩ = (w.alloc (.cells #[.int .i64 k, .string s, .int .i64 x, .int .i64 y] 38)).cell? ⟨w.heap.size, j, none⟩ := by
        unfold World.cell?
        rw [hW]
      rw [this]
      exact World.cell?_alloc_at _ _ _ _ rfl
    rw [e, e2, ← hj]
    simp) (by intro u hu; simp only [List.mem_cons, List.not_mem_nil, or_false] at hu; rcases hu with rfl | rfl | rfl | rfl <;> rfl)
set_option maxHeartbeats 2000000 in
theorem scan_long (s : List UInt8) (w : World) (hl : 65536 < s.length) :
    Calls Tryd.prog 8 #[.string ⟨s.toArray⟩] w (Scanned w none) := by
  have hl' : (65536 : Int) < (s.length : Int) := by omega
  clear hl
  go_enter Tryd.func8, Tryd.ntmps8
  go_wp2_with fail
  refine bodyPost_ret (v := .tuple #[.slice none 0 0, .agg #[.int .i64 0, .int .i64 0, .int .i64 6]]) (by simp [results, Tryd.results8, go_sem]) rfl ⟨?_, 0, 0, 6, by decide, rfl⟩
  exact (Frm.refl No w).alloc _
set_option maxRecDepth 100000 in
set_option maxHeartbeats 4000000 in
theorem scan_short (s : List UInt8) (w : World) (hl : s.length ≤ 65536) :
    Calls Tryd.prog 8 #[.string ⟨s.toArray⟩] w (Scanned w (Gr.toks (s.length + 1) s)) := by
  have hl' : ¬ (65536 : Int) < (s.length : Int) := by omega
  obtain ⟨R, hR⟩ : ∃ R, Gr.toks (s.length + 1) s = R := ⟨_, rfl⟩
  rw [hR]
  have HR := hid hR
  have HL := hid hl
  clear hR hl
  go_enter Tryd.func8, Tryd.ntmps8
  go_wp2_with fail
  obtain ⟨F, hF⟩ : ∃ F, w.heap.size = F := ⟨_, rfl⟩
  have hsz1 : ((w.alloc (.cells #[.int .i64 0, .int .i64 0, .int .i64 0] 28)).alloc (.cells #[.string ⟨s.toArray⟩, .int .i64 0, .int .i64 1, .int .i64 1, .slice none 0 0, .int .i64 0, .int .i64 0, .int .i64 0] 70)).heap.size = F + 1 + 1 := by
    rw [World.size_alloc, World.size_alloc, hF]
  have hcb : ∀ j, ((w.alloc (.cells #[.int .i64 0, .int .i64 0, .int .i64 0] 28)).alloc (.cells #[.string ⟨s.toArray⟩, .int .i64 0, .int .i64 1, .int .i64 1, .slice none 0 0, .int .i64 0, .int .i64 0, .int .i64 0] 70)).cell? ⟨F + 1, j, none⟩ = (#[.string ⟨s.toArray⟩, .int .i64 0, .int .i64 1, .int .i64 1, .slice none 0 0, .int .i64 0, .int .i64 0, .int .i64 0] : Array Value)[j]? := fun j => World.cell?_alloc_at _ _ _ _ (by rw [World.size_alloc, hF])
  have hfb : ∀ j, ((w.alloc (.cells #[.int .i64 0, .int .i64 0, .int .i64 0] 28)).alloc (.cells #[.string ⟨s.toArray⟩, .int .i64 0, .int .i64 1, .int .i64 1, .slice none 0 0, .int .i64 0, .int .i64 0, .int .i64 0] 70)).frozen? ⟨F + 1, j, none⟩ = false := fun j => World.frozen?_alloc_at _ _ _ _ (by rw [World.size_alloc, hF])
  have hcf : ∀ j, ((w.alloc (.cells #[.int .i64 0, .int .i64 0, .int .i64 0] 28)).alloc (.cells #[.string ⟨s.toArray⟩, .int .i64 0, .int .i64 1, .int .i64 1, .slice none 0 0, .int .i64 0, .int .i64 0, .int .i64 0] 70)).cell? ⟨F, j, none⟩ = (#[.int .i64 0, .int .i64 0, .int .i64 0] : Array Value)[j]? := fun j => (((Frm.refl No _).alloc _).cell (p := ⟨F, j, none⟩) (by rw [World.size_alloc]; show F < _; omega) (fun h => h)).trans (World.cell?_alloc_at _ _ _ _ hF.symm)
  have hff : ∀ j, ((w.alloc (.cells #[.int .i64 0, .int .i64 0, .int .i64 0] 28)).alloc (.cells #[.string ⟨s.toArray⟩, .int .i64 0, .int .i64 1, .int .i64 1, .slice none 0 0, .int .i64 0, .int .i64 0, .int .i64 0] 70)).frozen? ⟨F, j, none⟩ = false := fun j => (((Frm.refl No _).alloc _).frozen (p := ⟨F, j, none⟩) (by rw [World.size_alloc]; show F < _; omega) (fun h => h)).trans (World.frozen?_alloc_at _ _ _ _ hF.symm)
  have hF1 : Frm No w ((w.alloc (.cells #[.int .i64 0, .int .i64 0, .int .i64 0] 28)).alloc (.cells #[.string ⟨s.toArray⟩, .int .i64 0, .int .i64 1, .int .i64 1, .slice none 0 0, .int .i64 0, .int .i64 0, .int .i64 0] 70)) := ((Frm.refl No w).alloc _).alloc _
  simp only [hF]
  obtain ⟨W1, hW1⟩ : ∃ W1, (w.alloc (.cells #[.int .i64 0, .int .i64 0, .int .i64 0] 28)).alloc (.cells #[.string ⟨s.toArray⟩, .int .i64 0, .int .i64 1, .int .i64 1, .slice none 0 0, .int .i64 0, .int .i64 0, .int .i64 0] 70) = W1 := ⟨_, rfl⟩
  rw [hW1] at hsz1 hcb hfb hcf hff hF1
  simp only [hW1]
  obtain ⟨b, hb⟩ : ∃ b, F + 1 = b := ⟨_, rfl⟩
  rw [hb] at hsz1 hcb hfb
  simp only [hb]
  have hS1 : Scn W1 b s 0 (.slice none 0 0) := ⟨hcb 0, hcb 1, ⟨1, hcb 2⟩, ⟨1, hcb 3⟩, hcb 4, ⟨0, hcb 5⟩, ⟨0, hcb 6⟩, ⟨0, hcb 7⟩, hfb⟩
  have hwF : w.heap.size ≤ F := Nat.le_of_eq hF
  have hFb : F < b := by omega
  clear hW1 hcb hfb hF hb
  refine (skip_any b 0 s _ W1 hS1 (Nat.zero_le _) HL.out).mono ?_
  rintro e w2 ⟨rfl, n0, -, hn0, hd0, hS2, hF2⟩
  have hU0 : Upto s n0 [] R := by rw [← HR.out]; exact Upto.start hd0
  have HT0 := hid (ScT.mk (tl := []) ⟨.slice none 0 0, hS2, World.ownsRow_nil _ _ _ _, by simp [Value.ownBlock]⟩ (Nat.zero_le _))
  have HG0 := hid (hF2.weak (U := Ge b) (fun _ _ h => h.ge))
  clear hS1 hS2 hF2 hd0 HR
  go_wp2_with fail
  go_loopw [14] (fun _ wr => ∃ n tl, n ≤ s.length ∧ ScT wr b s n tl ∧ Upto s n tl R ∧ Frm (Ge b) W1 wr) (fun _ wr => s.length - posOf b wr)
  case atStart => exact ⟨n0, [], hn0, HT0.out, hU0, HG0.out⟩
  case round =>
    obtain ⟨n, tl, hn, hT, hU, hG⟩ := hrel
    clear HT0 HG0 hU0
    obtain ⟨v, hS, hO, hne⟩ := hT.ex
    have hp1 := hS.pos
    by_cases hlt : n < s.length
    · have HT := hid hT
      have HU := hid hU
      have HO := hid hO
      clear hT hU hO
      go_wp2_with fail
      refine (more_yes b n s v _ hS hlt).mono ?_
      rintro e w3 ⟨rfl, q, rfl⟩
      go_wp2_with fail
      refine (token_any b n s tl _ (HT.out.frm ((Frm.refl No _).drewN _)) HL.out hlt).mono ?_
      intro e w4 hR
      obtain ⟨hR1, hR2⟩ := hR
      cases ht : Gr.tok1 (s.drop n) with
      | none =>
        rw [ht] at hR2
        obtain ⟨rfl, hB⟩ := hR2
        have HRN : Hid (R = none) := hid (HU.out.fail hlt ht)
        have hG4 := (hG.drewN q).then_ hR1
        have hcf4 : ∀ j, w4.cell? ⟨F, j, none⟩ = (#[.int .i64 0, .int .i64 0, .int .i64 0] : Array Value)[j]? := fun j => (hG4.cell (p := ⟨F, j, none⟩) (by show F < _; omega) (fun e => by have e : b ≤ F := e; omega)).trans (hcf j)
        have hff4 : ∀ j, w4.frozen? ⟨F, j, none⟩ = false := fun j => (hG4.frozen (p := ⟨F, j, none⟩) (by show F < _; omega) (fun e => by have e : b ≤ F := e; omega)).trans (hff j)
        obtain ⟨z5, h5⟩ := hB.c5
        obtain ⟨z6, h6⟩ := hB.c6
        obtain ⟨z7, hz7, h7⟩ := hB.c7
        have k0 := hcf4 0
        have k1 := hcf4 1
        have k2 := hcf4 2
        have HZ := hid hz7
        clear hcf hff hcf4 hz7 ht
        go_wp2_with fail
        go_region
        go_wp2_with fail
        have hFw : Frm No w w4 := hF1.trans hG4 (fun _ _ h => h) (fun i hi e => by have e : b ≤ i := e; omega)
        have hFs : ∀ {a : World} {j : Nat} {u : Value}, Frm No w a → Frm No w (a.setCell ⟨F, j, none⟩ u) := fun h => h.setCell (fun e => by have e : F < w.heap.size := e; omega) _
        refine bodyPost_ret (v := .tuple #[.slice none 0 0, .agg #[.int .i64 z5, .int .i64 z6, .int .i64 z7]]) (by simp [results, Tryd.results8, go_sem, k0, k1, k2]) rfl ⟨?_, ?_⟩
        · repeat (first | exact hFw | refine Frm.drew ?_ | refine hFs ?_)
        · rw [HRN.out]
          exact ⟨z5, z6, z7, HZ.out, rfl⟩
      | some p =>
        obtain ⟨t, r1⟩ := p
        rw [ht] at hR2
        obtain ⟨rfl, m, x, y, hm, hml, hdm, hT4⟩ := hR2
        have HT2 := hid ht
        have hG4 := (hG.drewN q).then_ hR1
        obtain ⟨v4, hS4, hO4, hne4⟩ := hT4.ex
        have hle4 := hT4.le
        clear ht hT4
        go_wp2_with fail
        refine (skip_any b m s _ w4 hS4 hml HL.out).mono ?_
        rintro e w5 ⟨rfl, m2, hm2, hm2l, hd2, hS5, hF5⟩
        go_wp2_with fail
        refine ⟨⟨m2, tl ++ [(t, x, y)], hm2l, ScT.moved hO4 hne4 hF5 hS5 (by omega), HU.out.next hlt HT2.out hm hdm hm2 hd2 x y, hG4.then_ (hF5.weak fun _ _ h => h.ge)⟩, ?_⟩
        rw [hS5.pos, hp1]
        omega
    · have HRS : Hid (R = some (tl.map (·.1) ++ [⟨4, []⟩])) := hid (hU.stop (by omega))
      have HGE : Hid (s.length ≤ n) := hid (by omega)
      have HTL : Hid (tl.length ≤ 65536) := hid (by have := hT.le; have := HL.out; omega)
      have HO := hid hO
      clear hT hU hO hlt
      go_wp2_with fail
      refine (more_no b n s v _ hS HGE.out).mono ?_
      rintro e w3 ⟨rfl, q, rfl⟩
      obtain ⟨ao, ec, rfl⟩ := ownsRow_shape HO.out
      obtain ⟨Wq, hWq⟩ : ∃ Wq, wr.drewN q = Wq := ⟨_, rfl⟩
      have hSq := hS.drewN q
      have hGq := hG.drewN q
      rw [hWq] at hSq hGq
      have hFw : Frm No w Wq := hF1.trans hGq (fun _ _ h => h) (fun i hi e => by have e : b ≤ i := e; omega)
      have HOq : Hid (Wq.ownsRow b 38 4 (.slice ao tl.length ec) tl.length (rows tokV tl)) := hid (by rw [← hWq]; exact ((Frm.refl No wr).drewN q).row HO.out (fun _ _ h => h))
      have hneq : ∀ k, (Value.slice ao tl.length ec).ownBlock = some k → b < k := fun k hk => by
        have h1 := (HO.out.lt k hk).1
        have h2 : k ≠ b := fun e => hne (by rw [hk, e])
        omega
      have hcfq : ∀ j, Wq.cell? ⟨F, j, none⟩ = (#[.int .i64 0, .int .i64 0, .int .i64 0] : Array Value)[j]? := fun j => (hGq.cell (p := ⟨F, j, none⟩) (by show F < _; omega) (fun e => by have e : b ≤ F := e; omega)).trans (hcf j)
      have hffq : ∀ j, Wq.frozen? ⟨F, j, none⟩ = false := fun j => (hGq.frozen (p := ⟨F, j, none⟩) (by show F < _; omega) (fun e => by have e : b ≤ F := e; omega)).trans (hff j)
      have HH : Hid (∀ W, Frm No Wq W → Calls Tryd.prog 22 #[.pointer (some ⟨b, 0, none⟩), .int .i64 4] W fun e w' => ∃ x y : Int, e = .returned (.agg #[.int .i64 4, .string ByteArray.empty, .int .i64 x, .int .i64 y]) ∧ Frm No Wq w') := hid fun W hW =>
        (here_any b n s _ 4 W (hSq.frm hW (fun h => h))).mono fun e w' ⟨x, y, he, hf⟩ => ⟨x, y, he, hW.thenNo hf⟩
      have HK : Hid (∀ W, Frm No Wq W → W.cell? ⟨b, 4, none⟩ = some (.slice ao tl.length ec)) := hid fun W hW => (hSq.frm hW (fun h => h)).c4
      have HW : Hid (∀ W, Frm No Wq W → ∀ w3, Frm (Own (.slice ao tl.length ec)) W w3 → Frm No w w3 ∧ w3.cell? ⟨b, 4, none⟩ = some (.slice ao tl.length ec) ∧ (∀ j, w3.cell? ⟨F, j, none⟩ = (#[.int .i64 0, .int .i64 0, .int .i64 0] : Array Value)[j]?) ∧ (∀ j, w3.frozen? ⟨F, j, none⟩ = false)) := hid fun W hW w3 h3 =>
        ⟨(hFw.thenNo hW).trans h3 (fun _ _ h => h) (fun i hi e => by have := hneq i e; omega),
          (h3.cell (p := ⟨b, 4, none⟩) (hSq.frm hW (fun h => h)).lt (fun e => by have := hneq b e; omega)).trans (HK.out W hW),
          fun j => (h3.cell (p := ⟨F, j, none⟩) (by have := (hSq.frm hW (fun h => h)).lt; show F < _; omega) (fun e => by have := hneq F e; omega)).trans ((hW.cell (p := ⟨F, j, none⟩) (by have := hSq.lt; show F < _; omega) (fun h => h)).trans (hcfq j)),
          fun j => (h3.frozen (p := ⟨F, j, none⟩) (by have := (hSq.frm hW (fun h => h)).lt; show F < _; omega) (fun e => by have := hneq F e; omega)).trans ((hW.frozen (p := ⟨F, j, none⟩) (by have := hSq.lt; show F < _; omega) (fun h => h)).trans (hffq j))⟩
      have HWF : Hid (w.heap.size ≤ F) := hid hwF
      have HBQ : Hid (b ≤ Wq.heap.size) := hid (Nat.le_of_lt hSq.lt)
      have h4 := hSq.c4
      obtain ⟨i0, gi', gz0', gz1', gz2'⟩ := info_parts info_tok
      have gi := hid gi'
      have gz0 := hid gz0'
      have gz1 := hid gz1'
      have gz2 := hid gz2'
      clear gi' gz0' gz1' gz2'
      try simp only [hWq]
      have HNQ := hid hneq
      have HCF := hid hcfq
      have HFF := hid hffq
      have k0 := hcfq 0
      have k1 := hcfq 1
      have k2 := hcfq 2
      clear hcf hff hS hG hp1 hl' hneq hcfq hn hn0 hsz1 hwF hWq
      go_wp2_with fail
      go_region_held3 (fun w' => w'.cell? ⟨b, 4, none⟩ = some (.slice ao tl.length ec)) (first | with_reducible assumption | exact p4s _ _ _ | exact HK.out _ (by repeat (first | with_reducible exact Frm.refl _ _ | with_reducible assumption | with_reducible refine Frm.drew ?_ | with_reducible refine Frm.alloc ?_ _))) (first | (go_at_call 22; refine (HH.out _ (by repeat (first | with_reducible exact Frm.refl _ _ | with_reducible assumption | with_reducible refine Frm.drew ?_ | with_reducible refine Frm.alloc ?_ _))).mono ?_; rintro e w5 ⟨x, y, rfl, hF5⟩) | (refine step_append_own rfl (.tmp 28) (.tmp 31) 34 34 rfl b 38 i0 _ 4 40 Tryd.underlying34 gi.out gz0.out gz1.out gz2.out rfl (.slice ao tl.length ec) tl.length (rows tokV tl) (by simp [Act.eval]) (Frm.row (S := No) (by repeat (first | with_reducible exact Frm.refl _ _ | with_reducible assumption | with_reducible refine Frm.drew ?_ | with_reducible refine Frm.alloc ?_ _)) HOq.out (fun _ _ h => h)) (.slice (some ⟨w5.heap.size, 0, none⟩) 1 1) 1 [.int .i64 4, .string ByteArray.empty, .int .i64 x, .int .i64 y] (by simp [Act.eval]) (src_tok _ rfl) (by have := HTL.out; unfold maxLen; omega) (by have := HTL.out; omega) (Nat.le_trans HBQ.out (Frm.size (S := No) (by repeat (first | with_reducible exact Frm.refl _ _ | with_reducible assumption | with_reducible refine Frm.drew ?_ | with_reducible refine Frm.alloc ?_ _)))) ?_; intro v3 w3 hown hd hv; obtain ⟨ao3, c3, rfl⟩ := ownsRow_shape hown; obtain ⟨pw, p4, pF, pZ⟩ := HW.out _ (by repeat (first | with_reducible exact Frm.refl _ _ | with_reducible assumption | with_reducible refine Frm.drew ?_ | with_reducible refine Frm.alloc ?_ _)) _ hd; have pF0 := pF 0; have pF1 := pF 1; have pF2 := pF 2; have p4s : ∀ u0 u1 u2, (((w3.setCell ⟨F, 0, none⟩ u0).setCell ⟨F, 1, none⟩ u1).setCell ⟨F, 2, none⟩ u2).cell? ⟨b, 4, none⟩ = some (.slice ao tl.length ec) := (fun u0 u1 u2 => (World.cell?_setCell_other _ _ _ _ (by simp)).trans ((World.cell?_setCell_other _ _ _ _ (by simp)).trans ((World.cell?_setCell_other _ _ _ _ (by simp)).trans p4)))))
      all_goals
        go_wp2_with fail
        have hFs : ∀ {a : World} {j : Nat} {u : Value}, Frm No w a → Frm No w (a.setCell ⟨F, j, none⟩ u) := fun h => h.setCell (fun e => by have e : F < w.heap.size := e; have := HWF.out; omega) _
        refine bodyPost_ret (v := .tuple #[.slice ao3 (tl.length + 1) c3, .agg #[.int .i64 0, .int .i64 0, .int .i64 0]]) (by simp [results, Tryd.results8, go_sem, pF0, pF1, pF2]) rfl ⟨?_, ?_⟩
        · repeat (first | exact pw | refine Frm.drew ?_ | refine hFs ?_)
        · rw [HRS.out]
          have hrw := ownsRow_base hown (base' := w.heap.size) (fun k hk => by have := (hown.lt k hk).1; have := HWF.out; omega)
          have hFr : ∀ {a : World} {j : Nat} {u : Value}, Frm (One F) w3 a → Frm (One F) w3 (a.setCell ⟨F, j, none⟩ u) := @fun a j u h => h.setCell (p := ⟨F, j, none⟩) (fun _ => rfl) _
          have hfr : Frm (One F) w3 (((w3.setCell ⟨F, 0, none⟩ (.int .i64 0)).setCell ⟨F, 1, none⟩ (.int .i64 0)).setCell ⟨F, 2, none⟩ (.int .i64 0)) := hFr (hFr (hFr (Frm.refl _ _)))
          have hr2 := hfr.row hrw (fun k hk e => by have := (hown.lt k hk).1; have e : k = F := e; omega)
          have e1 : (tl ++ [((⟨4, []⟩ : Gr.Tk), x, y)]).length = tl.length + 1 := by simp
          have e2 : rows tokV (tl ++ [((⟨4, []⟩ : Gr.Tk), x, y)]) = rows tokV tl ++ [.int .i64 4, .string ByteArray.empty, .int .i64 x, .int .i64 y] := by rw [rows_append]; simp [rows, tokV]; rfl
          refine ⟨tl ++ [(⟨4, []⟩, x, y)], .slice ao3 (tl.length + 1) c3, by rw [List.map_append]; rfl, by rw [e1]; have := HTL.out; omega, rfl, ?_⟩
          rw [e1, e2]
          exact hr2
end Go.Proofs.YtebocnpbiiejmaaDoor
