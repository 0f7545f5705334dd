/- The scanner's tokens. -/
import Derived.Test.YtebocnpbiiejmaaDoorTwF
import Derived.StillTailTactics
namespace Go.Proofs.YtebocnpbiiejmaaDoor
open Go.RowKit
/-- a token was read, or none -/
def RedT (w : World) (b n : Nat) (s : List UInt8) (tl : List Tp) (R : Option (Gr.Tk × List UInt8)) (e : Ending) (w' : World) : Prop :=
  Frm (Ge b) w w' ∧ match R with
  | none => e = .returned (.bool false) ∧ Bad w' b
  | some (t, r) => e = .returned (.bool true) ∧ ∃ (m : Nat) (x y : Int), n < m ∧ m ≤ s.length ∧ s.drop m = r ∧ ScT w' b s m (tl ++ [(t, x, y)])
theorem Red.tok {w w0 w' : World} {b n k : Nat} {s : List UInt8} {tl : List Tp} {R : Option (List UInt8 × List UInt8)} {e : Ending} (hF : Frm (Ge b) w w0) (h : Red w0 b n s tl k R e w') : RedT w b n s tl (R.map fun p => (⟨k, p.1⟩, p.2)) e w' := by
  obtain ⟨h1, h2⟩ := h
  refine ⟨hF.then_ h1, ?_⟩
  cases R with
  | none => exact h2
  | some p => exact h2
theorem idx_sign (c : UInt8) (w : World) : Calls Tryd.prog 51 #[.string ⟨#[58, 124, 59, 40, 41, 91, 93, 123, 125, 42, 43, 63, 37]⟩, .int .u8 (c.toNat : Int)] w fun e w' => e = .returned (.int .i64 (Lib.indexByte Gr.signs c)) ∧ w' = w := by
  have h := Tryd.strings_IndexByte ⟨#[58, 124, 59, 40, 41, 91, 93, 123, 125, 42, 43, 63, 37]⟩ (c.toNat : Int) w
  have e : ((c.toNat : Int)).toNat.toUInt8 = c := by
    show (c.toNat).toUInt8 = c
    exact UInt8.ofNat_toNat
  rw [e] at h
  exact h
def Box4 (w : World) (B : Nat) (k : Int) (x y : Int) : Prop := ∀ j, w.cell? ⟨B, j, none⟩ = (#[.int .i64 k, .string ByteArray.empty, .int .i64 x, .int .i64 y] : Array Value)[j]?
set_option maxHeartbeats 2000000 in
theorem tok_letter (b n : Nat) (s : List UInt8) (tl : List Tp) (w : World) (h : ScT w b s n tl) (hl : s.length ≤ 65536) (hlt : n < s.length) (c : UInt8) (hc : s[n] = c) (hlet : Gr.isLetter c = true) :
    Calls Tryd.prog 21 #[.pointer (some ⟨b, 0, none⟩)] w (RedT w b n s tl ((nameOut (s.drop n)).map fun p => (⟨1, p.1⟩, p.2))) := by
  obtain ⟨v, hS, hO, hne⟩ := h.ex
  have hb := hS.lt
  have HH := hid (here_any b n s v 3 w hS)
  have HTT := hid h
  have HLT := fun w => letter_any c w
  rw [hlet] at HLT
  have hin : Gr.inName s[n] = true := by rw [hc]; unfold Gr.inName; rw [hlet]; rfl
  clear hlet h
  go_enter Tryd.func21, Tryd.ntmps21
  go_wp2_with fail
  refine HH.out.mono ?_
  rintro e w1 ⟨x, y, rfl, hF1⟩
  have hb1 := hF1.size
  have hFB : Frm No w (w1.alloc (.cells #[.int .i64 3, .string ByteArray.empty, .int .i64 x, .int .i64 y] 38)) := hF1.alloc _
  have hx1 : ∀ j, (w1.alloc (.cells #[.int .i64 3, .string ByteArray.empty, .int .i64 x, .int .i64 y] 38)).cell? ⟨w1.heap.size, j, none⟩ = (#[.int .i64 3, .string ByteArray.empty, .int .i64 x, .int .i64 y] : Array Value)[j]? := fun j => World.cell?_alloc_at _ _ _ _ rfl
  have hz1 : ∀ j, (w1.alloc (.cells #[.int .i64 3, .string ByteArray.empty, .int .i64 x, .int .i64 y] 38)).frozen? ⟨w1.heap.size, j, none⟩ = false := fun j => World.frozen?_alloc_at _ _ _ _ rfl
  obtain ⟨B, hB⟩ : ∃ B, w1.heap.size = B := ⟨_, rfl⟩
  obtain ⟨W1, hW1⟩ : ∃ W1, w1.alloc (.cells #[.int .i64 3, .string ByteArray.empty, .int .i64 x, .int .i64 y] 38) = W1 := ⟨_, rfl⟩
  rw [hW1] at hFB hx1 hz1
  rw [hB] at hx1 hz1
  go_wp2_with fail
  try simp only [hW1, hB]
  have hS1 := hS.frm hFB (fun h => h)
  have h0 := hS1.c0
  have h1 := hS1.c1
  clear hS HH hF1 hW1
  go_quiet (fail)
  have hSD := hS1.drewN nq
  have hFD := hFB.drewN nq
  have HT1 := hid (HTT.out.frm hFD)
  have HG1 := hid (hFD.weak (U := Ge b) (fun _ _ h => h.elim))
  have HO1 := hid (hFD.row hO (fun _ _ h => h))
  go_wp2_with fail
  refine (HLT _).mono ?_
  rintro e w2 ⟨rfl, rfl⟩
  go_wp2_with fail
  refine (name_any b n s tl _ HT1.out hl hlt hin).mono ?_
  intro e w3 hR
  obtain ⟨hb3, he3⟩ : (e = .returned (.bool true) ∨ e = .returned (.bool false)) ∧ True := by
    refine ⟨?_, trivial⟩
    have h2 := hR.2
    cases hno : nameOut (s.drop n) with
    | none => rw [hno] at h2; exact Or.inr h2.1
    | some p => rw [hno] at h2; exact Or.inl h2.1
  · rcases hb3 with rfl | rfl
    · go_wp2_with fail
      refine bodyPost_ret (results_tmp rfl _ _ _) rfl ?_
      exact hR.tok HG1.out
    · go_wp2_with fail
      refine bodyPost_ret (results_tmp rfl _ _ _) rfl ?_
      exact hR.tok HG1.out
set_option maxHeartbeats 2000000 in
theorem tok_quote (b n : Nat) (s : List UInt8) (tl : List Tp) (w : World) (h : ScT w b s n tl) (hl : s.length ≤ 65536) (hlt : n < s.length) (c : UInt8) (hc : s[n] = c) (hlet : Gr.isLetter c = false) (hq : c = 39 ∨ c = 34) :
    Calls Tryd.prog 21 #[.pointer (some ⟨b, 0, none⟩)] w (RedT w b n s tl ((litOut (Gr.litS c [] (s.drop (n + 1)))).map fun p => (⟨2, p.1⟩, p.2))) := by
  obtain ⟨v, hS, hO, hne⟩ := h.ex
  have hb := hS.lt
  have HH := hid (here_any b n s v 3 w hS)
  have HTT := hid h
  have HLT := fun w => letter_any c w
  rw [hlet] at HLT
  have HQ := hid hq
  rcases hq with hq | hq
  · have z39 : (((c.toNat : Nat) : Int) == 39) = true := by rw [hq]; rfl
    clear hlet h hq
    go_enter Tryd.func21, Tryd.ntmps21
    go_wp2_with fail
    refine HH.out.mono ?_
    rintro e w1 ⟨x, y, rfl, hF1⟩
    have hb1 := hF1.size
    have hFB : Frm No w (w1.alloc (.cells #[.int .i64 3, .string ByteArray.empty, .int .i64 x, .int .i64 y] 38)) := hF1.alloc _
    have hx1 : ∀ j, (w1.alloc (.cells #[.int .i64 3, .string ByteArray.empty, .int .i64 x, .int .i64 y] 38)).cell? ⟨w1.heap.size, j, none⟩ = (#[.int .i64 3, .string ByteArray.empty, .int .i64 x, .int .i64 y] : Array Value)[j]? := fun j => World.cell?_alloc_at _ _ _ _ rfl
    have hz1 : ∀ j, (w1.alloc (.cells #[.int .i64 3, .string ByteArray.empty, .int .i64 x, .int .i64 y] 38)).frozen? ⟨w1.heap.size, j, none⟩ = false := fun j => World.frozen?_alloc_at _ _ _ _ rfl
    obtain ⟨B, hB⟩ : ∃ B, w1.heap.size = B := ⟨_, rfl⟩
    obtain ⟨W1, hW1⟩ : ∃ W1, w1.alloc (.cells #[.int .i64 3, .string ByteArray.empty, .int .i64 x, .int .i64 y] 38) = W1 := ⟨_, rfl⟩
    rw [hW1] at hFB hx1 hz1
    rw [hB] at hx1 hz1
    go_wp2_with fail
    try simp only [hW1, hB]
    have hS1 := hS.frm hFB (fun h => h)
    have h0 := hS1.c0
    have h1 := hS1.c1
    clear hS HH hF1 hW1
    go_quiet (fail)
    have hSD := hS1.drewN nq
    have hFD := hFB.drewN nq
    have HT1 := hid (HTT.out.frm hFD)
    have HG1 := hid (hFD.weak (U := Ge b) (fun _ _ h => h.elim))
    have HO1 := hid (hFD.row hO (fun _ _ h => h))
    go_wp2_with fail
    refine (HLT _).mono ?_
    rintro e w2 ⟨rfl, rfl⟩
    go_wp2_with fail
    refine (literal_any b n s tl c _ HT1.out hl hlt HQ.out).mono ?_
    intro e w3 hR
    have hb3 : e = .returned (.bool true) ∨ e = .returned (.bool false) := by
      have h2 := hR.2
      cases hno : litOut (Gr.litS c [] (s.drop (n + 1))) with
      | none => rw [hno] at h2; exact Or.inr h2.1
      | some p => rw [hno] at h2; exact Or.inl h2.1
    rcases hb3 with rfl | rfl
    · go_wp2_with fail
      refine bodyPost_ret (results_tmp rfl _ _ _) rfl ?_
      exact hR.tok HG1.out
    · go_wp2_with fail
      refine bodyPost_ret (results_tmp rfl _ _ _) rfl ?_
      exact hR.tok HG1.out
  · have z39 : (((c.toNat : Nat) : Int) == 39) = false := by rw [hq]; rfl
    have z34 : (((c.toNat : Nat) : Int) == 34) = true := by rw [hq]; rfl
    clear hlet h hq
    go_enter Tryd.func21, Tryd.ntmps21
    go_wp2_with fail
    refine HH.out.mono ?_
    rintro e w1 ⟨x, y, rfl, hF1⟩
    have hb1 := hF1.size
    have hFB : Frm No w (w1.alloc (.cells #[.int .i64 3, .string ByteArray.empty, .int .i64 x, .int .i64 y] 38)) := hF1.alloc _
    have hx1 : ∀ j, (w1.alloc (.cells #[.int .i64 3, .string ByteArray.empty, .int .i64 x, .int .i64 y] 38)).cell? ⟨w1.heap.size, j, none⟩ = (#[.int .i64 3, .string ByteArray.empty, .int .i64 x, .int .i64 y] : Array Value)[j]? := fun j => World.cell?_alloc_at _ _ _ _ rfl
    have hz1 : ∀ j, (w1.alloc (.cells #[.int .i64 3, .string ByteArray.empty, .int .i64 x, .int .i64 y] 38)).frozen? ⟨w1.heap.size, j, none⟩ = false := fun j => World.frozen?_alloc_at _ _ _ _ rfl
    obtain ⟨B, hB⟩ : ∃ B, w1.heap.size = B := ⟨_, rfl⟩
    obtain ⟨W1, hW1⟩ : ∃ W1, w1.alloc (.cells #[.int .i64 3, .string ByteArray.empty, .int .i64 x, .int .i64 y] 38) = W1 := ⟨_, rfl⟩
    rw [hW1] at hFB hx1 hz1
    rw [hB] at hx1 hz1
    go_wp2_with fail
    try simp only [hW1, hB]
    have hS1 := hS.frm hFB (fun h => h)
    have h0 := hS1.c0
    have h1 := hS1.c1
    clear hS HH hF1 hW1
    go_quiet (fail)
    have hSD := hS1.drewN nq
    have hFD := hFB.drewN nq
    have HT1 := hid (HTT.out.frm hFD)
    have HG1 := hid (hFD.weak (U := Ge b) (fun _ _ h => h.elim))
    have HO1 := hid (hFD.row hO (fun _ _ h => h))
    go_wp2_with fail
    refine (HLT _).mono ?_
    rintro e w2 ⟨rfl, rfl⟩
    go_wp2_with fail
    refine (literal_any b n s tl c _ HT1.out hl hlt HQ.out).mono ?_
    intro e w3 hR
    have hb3 : e = .returned (.bool true) ∨ e = .returned (.bool false) := by
      have h2 := hR.2
      cases hno : litOut (Gr.litS c [] (s.drop (n + 1))) with
      | none => rw [hno] at h2; exact Or.inr h2.1
      | some p => rw [hno] at h2; exact Or.inl h2.1
    rcases hb3 with rfl | rfl
    · go_wp2_with fail
      refine bodyPost_ret (results_tmp rfl _ _ _) rfl ?_
      exact hR.tok HG1.out
    · go_wp2_with fail
      refine bodyPost_ret (results_tmp rfl _ _ _) rfl ?_
      exact hR.tok HG1.out
set_option maxHeartbeats 2000000 in
theorem tok_none (b n : Nat) (s : List UInt8) (tl : List Tp) (w : World) (h : ScT w b s n tl) (_hl : s.length ≤ 65536) (hlt : n < s.length) (c : UInt8) (hc : s[n] = c) (hlet : Gr.isLetter c = false) (h39 : c ≠ 39) (h34 : c ≠ 34) (hs : c ∉ Gr.signs) :
    Calls Tryd.prog 21 #[.pointer (some ⟨b, 0, none⟩)] w (RedT w b n s tl none) := by
  obtain ⟨v, hS, hO, hne⟩ := h.ex
  have hb := hS.lt
  have HH := hid (here_any b n s v 3 w hS)
  have HTT := hid h
  have HLT := fun w => letter_any c w
  rw [hlet] at HLT
  have z39 : (((c.toNat : Nat) : Int) == 39) = false := byte_ne (x := 39) h39
  have z34 : (((c.toNat : Nat) : Int) == 34) = false := byte_ne (x := 34) h34
  have HIX := fun w => idx_sign c w
  rw [Gr.indexByte_not hs] at HIX
  clear hlet h h39 h34 hs
  go_enter Tryd.func21, Tryd.ntmps21
  go_wp2_with fail
  refine HH.out.mono ?_
  rintro e w1 ⟨x, y, rfl, hF1⟩
  have hb1 := hF1.size
  have hFB : Frm No w (w1.alloc (.cells #[.int .i64 3, .string ByteArray.empty, .int .i64 x, .int .i64 y] 38)) := hF1.alloc _
  have hx1 : ∀ j, (w1.alloc (.cells #[.int .i64 3, .string ByteArray.empty, .int .i64 x, .int .i64 y] 38)).cell? ⟨w1.heap.size, j, none⟩ = (#[.int .i64 3, .string ByteArray.empty, .int .i64 x, .int .i64 y] : Array Value)[j]? := fun j => World.cell?_alloc_at _ _ _ _ rfl
  have hz1 : ∀ j, (w1.alloc (.cells #[.int .i64 3, .string ByteArray.empty, .int .i64 x, .int .i64 y] 38)).frozen? ⟨w1.heap.size, j, none⟩ = false := fun j => World.frozen?_alloc_at _ _ _ _ rfl
  obtain ⟨B, hB⟩ : ∃ B, w1.heap.size = B := ⟨_, rfl⟩
  obtain ⟨W1, hW1⟩ : ∃ W1, w1.alloc (.cells #[.int .i64 3, .string ByteArray.empty, .int .i64 x, .int .i64 y] 38) = W1 := ⟨_, rfl⟩
  rw [hW1] at hFB hx1 hz1
  rw [hB] at hx1 hz1
  go_wp2_with fail
  try simp only [hW1, hB]
  have hS1 := hS.frm hFB (fun h => h)
  have h0 := hS1.c0
  have h1 := hS1.c1
  clear hS HH hF1 hW1
  go_quiet (fail)
  have hSD := hS1.drewN nq
  have hFD := hFB.drewN nq
  have HT1 := hid (HTT.out.frm hFD)
  have HG1 := hid (hFD.weak (U := Ge b) (fun _ _ h => h.elim))
  have HO1 := hid (hFD.row hO (fun _ _ h => h))
  go_wp2_with fail
  refine (HLT _).mono ?_
  rintro e w2 ⟨rfl, rfl⟩
  go_wp2_with fail
  refine (HIX _).mono ?_
  rintro e w2 ⟨rfl, rfl⟩
  go_wp2_with fail
  refine (fail_bad b n s v 3 ByteArray.empty x y 2 _ hSD (by decide)).mono ?_
  rintro e w6 ⟨rfl, hB6, hF6⟩
  go_wp2_with fail
  exact bodyPost_ret (results_tmp rfl _ _ _) rfl ⟨HG1.out.then_ (hF6.weak fun _ _ h => h.ge), rfl, hB6⟩
set_option maxRecDepth 100000 in
set_option maxHeartbeats 2000000 in
theorem tok_sign (b n : Nat) (s : List UInt8) (tl : List Tp) (w : World) (h : ScT w b s n tl) (hl : s.length ≤ 65536) (hlt : n < s.length) (c : UInt8) (hc : s[n] = c) (hlet : Gr.isLetter c = false) (h39 : c ≠ 39) (h34 : c ≠ 34) (hs : c ∈ Gr.signs) :
    Calls Tryd.prog 21 #[.pointer (some ⟨b, 0, none⟩)] w (RedT w b n s tl (some (Gr.sg c, s.drop (n + 1)))) := by
  obtain ⟨v, hS, hO, hne⟩ := h.ex
  have hb := hS.lt
  have HH := hid (here_any b n s v 3 w hS)
  have HTT := hid h
  have HLT := fun w => letter_any c w
  rw [hlet] at HLT
  have z39 : (((c.toNat : Nat) : Int) == 39) = false := byte_ne (x := 39) h39
  have z34 : (((c.toNat : Nat) : Int) == 34) = false := byte_ne (x := 34) h34
  obtain ⟨ix, hix⟩ := Gr.indexByte_mem hs
  have HIX := fun w => idx_sign c w
  rw [hix] at HIX
  have HLE0 := hid h.le
  have HOV : Hid (∀ k, v.ownBlock = some k → k < w.heap.size) := hid (fun k hk => (hO.lt k hk).2)
  clear hlet h h39 h34 hs hix
  go_enter Tryd.func21, Tryd.ntmps21
  go_wp2_with fail
  refine HH.out.mono ?_
  rintro e w1 ⟨x, y, rfl, hF1⟩
  have hb1 := hF1.size
  have hFB : Frm No w (w1.alloc (.cells #[.int .i64 3, .string ByteArray.empty, .int .i64 x, .int .i64 y] 38)) := hF1.alloc _
  have hx1 : ∀ j, (w1.alloc (.cells #[.int .i64 3, .string ByteArray.empty, .int .i64 x, .int .i64 y] 38)).cell? ⟨w1.heap.size, j, none⟩ = (#[.int .i64 3, .string ByteArray.empty, .int .i64 x, .int .i64 y] : Array Value)[j]? := fun j => World.cell?_alloc_at _ _ _ _ rfl
  have hz1 : ∀ j, (w1.alloc (.cells #[.int .i64 3, .string ByteArray.empty, .int .i64 x, .int .i64 y] 38)).frozen? ⟨w1.heap.size, j, none⟩ = false := fun j => World.frozen?_alloc_at _ _ _ _ rfl
  obtain ⟨B, hB⟩ : ∃ B, w1.heap.size = B := ⟨_, rfl⟩
  obtain ⟨W1, hW1⟩ : ∃ W1, w1.alloc (.cells #[.int .i64 3, .string ByteArray.empty, .int .i64 x, .int .i64 y] 38) = W1 := ⟨_, rfl⟩
  rw [hW1] at hFB hx1 hz1
  rw [hB] at hx1 hz1
  go_wp2_with fail
  try simp only [hW1, hB]
  have hS1 := hS.frm hFB (fun h => h)
  have h0 := hS1.c0
  have h1 := hS1.c1
  clear hS HH hF1 hW1
  go_quiet (fail)
  have hSD := hS1.drewN nq
  have hFD := hFB.drewN nq
  have HT1 := hid (HTT.out.frm hFD)
  have HG1 := hid (hFD.weak (U := Ge b) (fun _ _ h => h.elim))
  have HO1 := hid (hFD.row hO (fun _ _ h => h))
  go_wp2_with fail
  refine (HLT _).mono ?_
  rintro e w2 ⟨rfl, rfl⟩
  go_wp2_with fail
  refine (HIX _).mono ?_
  rintro e w2 ⟨rfl, rfl⟩
  have hw := wrap_succ (n := n) (by omega)
  have g0 := hSD.c0
  have g1 := hSD.c1
  obtain ⟨Wd, hWd⟩ : ∃ Wd, W1.drewN nq = Wd := ⟨_, rfl⟩
  have hxd : ∀ j, Wd.cell? ⟨B, j, none⟩ = (#[.int .i64 3, .string ByteArray.empty, .int .i64 x, .int .i64 y] : Array Value)[j]? := fun j => by rw [← hWd]; exact hx1 j
  have hzd : ∀ j, Wd.frozen? ⟨B, j, none⟩ = false := fun j => by rw [← hWd]; exact hz1 j
  rw [hWd] at hSD hFD HT1 HG1 HO1 g0 g1
  try simp only [hWd]
  have k0 := hxd 0
  have k1 := hxd 1
  have k2 := hxd 2
  have k3 := hxd 3
  have hsl : ∀ wx : World, (Instr.slice 9 (.string ⟨s.toArray⟩) (some (.int .i64 (n : Int))) (some (.int .i64 ((n : Int) + 1))) none).run Tryd.prog wx = .ok (.string ⟨#[c]⟩) wx := by
    intro wx
    rw [run_slice_string_if _ _ _ _ _ _ _ Tryd.underlying9, if_pos ⟨by omega, by rw [str_size]; omega⟩, if_pos ⟨by omega, by omega⟩, str_extract]
    have e1 : ((n : Int) + 1).toNat - (n : Int).toNat = 1 := by omega
    have e2 : (n : Int).toNat = n := by omega
    rw [e1, e2, List.drop_eq_getElem_cons hlt, hc]
    rfl
  clear hWd hx1 hz1 hFB hO HTT HLT HIX
  have HXD := hid hxd
  clear hxd
  go_wp2_with fail
  have HLL := hid hl
  clear hl
  go_still_tail 14, (by kernel_rfl)
  change wpList _ _ _ _ _ Wd.drew
  go_wp2_with fail
  have hBW0 : B < Wd.heap.size := World.block_lt_of_cell? Wd _ (HXD.out 0)
  have hBb : B ≠ b := by omega
  have HVB : Hid (∀ k, v.ownBlock = some k → k ≠ B) := hid (fun k hk => by have := HOV.out k hk; omega)
  have hS2 : Scn (Wd.setCell ⟨B, 1, none⟩ (.string ⟨#[c]⟩)).drew b s n v := Scn.drew (hSD.frm (S := One B) frmOne (fun e => by have e : b = B := e; omega))
  have hF2 : Frm (One B) Wd (Wd.setCell ⟨B, 1, none⟩ (.string ⟨#[c]⟩)).drew := Frm.drew frmOne
  have HX2 : Hid (∀ j, (Wd.setCell ⟨B, 1, none⟩ (.string ⟨#[c]⟩)).drew.cell? ⟨B, j, none⟩ = (#[.int .i64 3, .string ⟨#[c]⟩, .int .i64 x, .int .i64 y] : Array Value)[j]?) := hid fun j => by
    show (Wd.setCell ⟨B, 1, none⟩ (.string ⟨#[c]⟩)).cell? ⟨B, j, none⟩ = _
    by_cases hj : j = 1
    · subst hj; exact World.cell?_setCell_same _ _ _ k1
    · rw [World.cell?_setCell_other _ _ _ _ (by simp), HXD.out]
      match j, hj with
      | 0, _ => rfl
      | 2, _ => rfl
      | 3, _ => rfl
      | k + 4, _ => simp
  have hszd : (Wd.setCell ⟨B, 1, none⟩ (.string ⟨#[c]⟩)).drew.heap.size = Wd.heap.size := by show (Wd.setCell ⟨B, 1, none⟩ (.string ⟨#[c]⟩)).heap.size = _; simp [World.setCell]
  refine (step_any b n s v _ hS2 hlt HLL.out).mono ?_
  rintro e W0 ⟨rfl, hS0, hFs⟩
  have hx : ∀ j, W0.cell? ⟨B, j, none⟩ = (#[.int .i64 3, .string ⟨#[c]⟩, .int .i64 x, .int .i64 y] : Array Value)[j]? := fun j => (hFs.cell (p := ⟨B, j, none⟩) (by show B < (Wd.setCell ⟨B, 1, none⟩ (.string ⟨#[c]⟩)).drew.heap.size; omega) (fun e => hBb e)).trans (HX2.out j)
  have hBW : B < W0.heap.size := World.block_lt_of_cell? W0 _ (hx 0)
  have HO0 := hid (hFs.row (hF2.row HO1.out (fun k hk e => HVB.out k hk e)) (fun k hk e => hne (by have e : k = b := e; rw [hk, e])))
  have HF0 := hid ((HG1.out.then_ (hF2.weak (U := Ge b) (fun i _ e => by have e : i = B := e; show b ≤ i; omega))).then_ (hFs.weak fun _ _ h => h.ge))
  obtain ⟨m, hm⟩ : ∃ m, n + 1 = m := ⟨_, rfl⟩
  have HM := hid hm
  rw [hm] at hS0
  have HN : Hid (m ≤ 65536) := hid (by have := HLL.out; have := HM.out; omega)
  have HLE2 : Hid (tl.length < m) := hid (by have := HLE0.out; have := HM.out; omega)
  clear hS2 hF2 HX2 hszd hFs hm hw hsl g0 g1 h0 h1 k0 k1 k2 k3 hSD hFD hS1
  go_wp2_with fail
  have hbW := hS0.lt
  obtain ⟨ao, ec, rfl⟩ := ownsRow_shape HO0.out
  have h4 := hS0.c4
  have hf4 := hS0.f 4
  have k0 := hx 0
  have k1 := hx 1
  have k2 := hx 2
  have k3 := hx 3
  have kab : ∀ o j, (W0.alloc o).cell? ⟨B, j, none⟩ = (#[.int .i64 3, .string ⟨#[c]⟩, .int .i64 x, .int .i64 y] : Array Value)[j]? := fun o j => (((Frm.refl No W0).alloc o).cell (p := ⟨B, j, none⟩) hBW (fun h => h)).trans (hx j)
  have pab : ∀ o, (W0.alloc o).cell? ⟨b, 4, none⟩ = some (.slice ao tl.length ec) := fun o => (((Frm.refl No W0).alloc o).cell (p := ⟨b, 4, none⟩) hbW (fun h => h)).trans h4
  have HSRC : Hid (Src Tryd.prog 4 34 (.slice (some ⟨W0.heap.size, 0, none⟩) 1 1) 1 [.int .i64 3, .string ⟨#[c]⟩, .int .i64 x, .int .i64 y] (W0.alloc (.cells #[.int .i64 3, .string ⟨#[c]⟩, .int .i64 x, .int .i64 y] 38)).drew) := hid (Src.ofSlice _ Tryd.underlying34 ⟨W0.heap.size, 0, none⟩ 1 1 [.int .i64 3, .string ⟨#[c]⟩, .int .i64 x, .int .i64 y] rfl (fun j u hj => by
    have e : (⟨W0.heap.size, 0, none⟩ : Addr).add j = ⟨W0.heap.size, j, none⟩ := by rw [Addr.add_lit]; simp
    have e2 : (W0.alloc (.cells #[.int .i64 3, .string ⟨#[c]⟩, .int .i64 x, .int .i64 y] 38)).drew.cell? ⟨W0.heap.size, j, none⟩ = (#[.int .i64 3, .string ⟨#[c]⟩, .int .i64 x, .int .i64 y] : Array Value)[j]? := World.cell?_alloc_at _ _ _ _ rfl
    rw [e, e2, ← hj]
    simp) (by intro u hu; simp only [List.mem_cons, List.not_mem_nil, or_false] at hu; rcases hu with rfl | rfl | rfl | rfl <;> rfl))
  have HROW : Hid ((W0.alloc (.cells #[.int .i64 3, .string ⟨#[c]⟩, .int .i64 x, .int .i64 y] 38)).drew.ownsRow b 38 4 (.slice ao tl.length ec) tl.length (rows tokV tl)) := hid (HO0.out.alloc _).drew
  have HBS : Hid (b ≤ (W0.alloc (.cells #[.int .i64 3, .string ⟨#[c]⟩, .int .i64 x, .int .i64 y] 38)).drew.heap.size) := hid (by show _ ≤ (W0.alloc _).heap.size; rw [World.size_alloc]; omega)
  have H56 : Hid (Scn (W0.alloc (.cells #[.int .i64 3, .string ⟨#[c]⟩, .int .i64 x, .int .i64 y] 38)).drew b s m (.slice ao tl.length ec)) := hid (hS0.frm (((Frm.refl No W0).alloc _).drew) (fun h => h))
  have HF1 : Hid (Frm (Ge b) w (W0.alloc (.cells #[.int .i64 3, .string ⟨#[c]⟩, .int .i64 x, .int .i64 y] 38)).drew) := hid ((HF0.out.alloc _).drew)
  have hneO : ∀ k, (Value.slice ao tl.length ec).ownBlock = some k → k ≠ b := fun k hk e => hne (by rw [hk, e])
  obtain ⟨i0, gi, gz0, gz1, gz2⟩ := info_parts info_tok
  go_region_law (refine step_append_own rfl (.tmp 56) (.tmp 58) 34 34 rfl b 38 i0 _ 4 40 Tryd.underlying34 gi gz0 gz1 gz2 rfl (.slice ao tl.length ec) tl.length (rows tokV tl) (by simp [Act.eval]) HROW.out (.slice (some ⟨W0.heap.size, 0, none⟩) 1 1) 1 [.int .i64 3, .string ⟨#[c]⟩, .int .i64 x, .int .i64 y] (by simp [Act.eval]) HSRC.out (by have := HLE2.out; have := HN.out; unfold maxLen; omega) (by have := HLE2.out; have := HN.out; omega) HBS.out ?_; intro v3 w3 hown hd hv; obtain ⟨ao3, c3, rfl⟩ := ownsRow_shape hown; have s3 := H56.out.frm hd (fun e => hneO _ e rfl); have pz : w3.cell? ⟨b, 4, none⟩ = some (.slice ao tl.length ec) := s3.c4; have pzf : w3.frozen? ⟨b, 4, none⟩ = false := s3.f 4)
  all_goals
    go_wp2_with fail
    have HD := tok_done (tp := (⟨3, [c]⟩, x, y)) HROW.out (by rw [World.size_drew, World.size_alloc]; omega) s3 hneO HF1.out hd hown hv HLE2.out
    refine bodyPost_ret (results_tmp rfl _ _ _) rfl ⟨HD.2, rfl, m, x, y, ?_, ?_, ?_, HD.1⟩
    · have := HM.out; omega
    · have := HM.out; omega
    · rw [HM.out]
end Go.Proofs.YtebocnpbiiejmaaDoor
