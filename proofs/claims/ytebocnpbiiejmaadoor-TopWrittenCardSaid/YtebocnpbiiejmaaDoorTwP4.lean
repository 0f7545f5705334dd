/- The parser's atoms. -/
import Derived.Test.YtebocnpbiiejmaaDoorTwP3
namespace Go.Proofs.YtebocnpbiiejmaaDoor
open Go.RowKit
/-- an atom was parsed, or there is none, or something was thrown -/
def ARes (w : World) (p g cap : Nat) (tl : List Tp) (i o B : Nat) (r : Option (Option Gr.Nd × List Gr.Tk)) (e : Ending) (w' : World) : Prop :=
  Frm (One p) w w' ∧ match r with
  | none => Wrong e
  | some (none, ts) => e = .returned (.tuple #[nvA ⟨0, [], none, 0, 0⟩, .bool false]) ∧ Par w' p g cap tl i o ∧ ts = rest tl i
  | some (some d, ts) => ∃ (x : Nv) (i' : Nat), e = .returned (.tuple #[nvA x, .bool true]) ∧ NdR w' B d x ∧ Par w' p g cap tl i' o ∧ ts = rest tl i' ∧ i < i'
def AtomOK (n : Nat) : Prop := ∀ (p g cap : Nat) (tl : List Tp) (i o B : Nat) (w : World), Par w p g cap tl i o → p < B → B ≤ w.heap.size → 4 * (tl.length - i) + 1 ≤ n →
  Calls Tryd.prog 74 #[.pointer (some ⟨p, 0, none⟩)] w (ARes w p g cap tl i o B (Gr.pAtom n o (rest tl i)))
theorem leaf_ndr {w : World} {B k : Nat} {s : List UInt8} : NdR w B (.mk k s []) ⟨k, s, none, 0, 0⟩ := ⟨rfl, rfl, fun b hb => by simp [Nv.v, Value.ownBlock] at hb, [], World.ownsRow_nil _ _ _ _, rfl⟩
theorem kid_ndr {w : World} {B k : Nat} {d : Gr.Nd} {x : Nv} (hB : B ≤ w.heap.size) (h : NdR w B d x) : NdR (w.alloc (.cells #[.int .i64 (x.k : Int), .string ⟨x.s.toArray⟩, .slice x.ao x.n x.c] 41)) B (.mk k [] [d]) ⟨k, [], some ⟨w.heap.size, 0, none⟩, 1, 1⟩ :=
  ⟨rfl, rfl, fun b hb => by have e : some w.heap.size = some b := hb; cases e; exact hB, [x], World.ownsRow_lit w #[.int .i64 (x.k : Int), .string ⟨x.s.toArray⟩, .slice x.ao x.n x.c] 1 (Nat.zero_le _) (by unfold maxLen; omega) rfl, ⟨x, [], rfl, NdR.frm ((Frm.refl No w).alloc _) (fun _ _ _ h => h) d x h, rfl⟩⟩
set_option maxRecDepth 100000 in
set_option maxHeartbeats 1000000 in
theorem atom_ref (_n : Nat) (p g cap : Nat) (tl : List Tp) (i o B : Nat) (w : World) (h : Par w p g cap tl i o) (hpB : p < B) (hBw : B ≤ w.heap.size) (hlt : i < tl.length) (t : Tp) (ht : tl[i] = t) (hok : (seenAt 4096 i t.1).k ≠ 0) (hk' : t.1.k = 1) :
    Calls Tryd.prog 74 #[.pointer (some ⟨p, 0, none⟩)] w (ARes w p g cap tl i o B (some (some (.mk 1 t.1.s []), rest tl (i + 1)))) := by
  have hl := h.tk.len
  have hw := wrap_succ2 (n := i) (by omega)
  have HH := hid h
  have HP := hid (peek_any p g cap tl i o _ (h.frm ((Frm.refl No w).alloc (.cells #[.int .i64 0, .string ⟨#[]⟩, .slice none 0 0] 41))))
  rw [ht] at HP
  have hFp : ¬ w.heap.size = p := by have := h.size; omega
  have HSZ := hid h.size
  have HNZ := hid hok
  have HK4 : Hid (tl[i].1.k ≠ 4) := hid (by rw [ht, hk']; decide)
  obtain ⟨⟨tk, ts⟩, tx, ty⟩ := t
  have hk : tk = 1 := hk'
  have z1 : (((tk : Nat) : Int) == 1) = true := by rw [hk]; rfl
  have HBW := hid hBw
  have HPB := hid hpB
  clear hl h ht hok hk' hBw hpB
  go_enter Tryd.func74, Tryd.ntmps74
  go_wp2_with fail
  refine HP.out.mono ?_
  intro e w1 hp
  rcases peeked_or hp with ⟨h0, -⟩ | ⟨-, rfl, -, hF1⟩
  · exact absurd h0 HNZ.out
  unfold tokA
  clear hp HP
  have hF01 : Frm No w w1 := ((Frm.refl No w).alloc _).thenNo hF1
  obtain ⟨F, hFe⟩ : ∃ F, w.heap.size = F := ⟨_, rfl⟩
  have hf1 : ∀ j, w1.cell? ⟨F, j, none⟩ = (#[.int .i64 0, .string ⟨#[]⟩, .slice none 0 0] : Array Value)[j]? := fun j => by rw [← hFe]; exact hF1.box j
  have hz1 : ∀ j, w1.frozen? ⟨F, j, none⟩ = false := fun j => by rw [← hFe]; exact (hF1.frozen (p := ⟨w.heap.size, j, none⟩) (by rw [World.size_alloc]; exact Nat.lt_succ_self _) (fun h => h)).trans (World.frozen?_alloc_at _ _ _ _ rfl)
  have hs1 := hF1.size
  rw [World.size_alloc, hFe] at hs1
  rw [hFe] at hFp
  have HFE := hid hFe
  simp only [hFe]
  have hx2 : ∀ j, (w1.alloc (.cells #[.int .i64 (tk : Int), .string ⟨ts.toArray⟩, .int .i64 tx, .int .i64 ty] 38)).cell? ⟨w1.heap.size, j, none⟩ = (#[.int .i64 (tk : Int), .string ⟨ts.toArray⟩, .int .i64 tx, .int .i64 ty] : Array Value)[j]? := fun j => World.cell?_alloc_at _ _ _ _ rfl
  have hF12 : Frm No w1 (w1.alloc (.cells #[.int .i64 (tk : Int), .string ⟨ts.toArray⟩, .int .i64 tx, .int .i64 ty] 38)) := (Frm.refl No w1).alloc _
  have hs2 : (w1.alloc (.cells #[.int .i64 (tk : Int), .string ⟨ts.toArray⟩, .int .i64 tx, .int .i64 ty] 38)).heap.size = w1.heap.size + 1 := World.size_alloc _ _
  obtain ⟨G, hGe⟩ : ∃ G, w1.heap.size = G := ⟨_, rfl⟩
  obtain ⟨W2, hW2⟩ : ∃ W2, w1.alloc (.cells #[.int .i64 (tk : Int), .string ⟨ts.toArray⟩, .int .i64 tx, .int .i64 ty] 38) = W2 := ⟨_, rfl⟩
  rw [hW2] at hx2 hF12 hs2
  rw [hGe] at hx2 hs2 hs1
  have hF02 : Frm No w W2 := hF01.thenNo hF12
  have hP2 := HH.out.frm hF02
  have hf2 : ∀ j, W2.cell? ⟨F, j, none⟩ = (#[.int .i64 0, .string ⟨#[]⟩, .slice none 0 0] : Array Value)[j]? := fun j => (hF12.cell (p := ⟨F, j, none⟩) (by show F < _; omega) (fun h => h)).trans (hf1 j)
  have hz2 : ∀ j, W2.frozen? ⟨F, j, none⟩ = false := fun j => (hF12.frozen (p := ⟨F, j, none⟩) (by show F < _; omega) (fun h => h)).trans (hz1 j)
  have k0 := hx2 0
  have k1 := hx2 1
  have f0 := hf2 0
  have f1 := hf2 1
  have f2 := hf2 2
  have c1 := hP2.c1
  have pf := hP2.f
  have hpF : ¬ p = F := fun e => hFp e.symm
  have hpG : ¬ p = G := by have := HSZ.out; omega
  have hGp : ¬ G = p := fun e => hpG e.symm
  have hFG : ¬ F = G := by omega
  have hGF : ¬ G = F := fun e => hFG e.symm
  have HP2 := hid hP2
  clear hf1 hz1 hF1 hF01 hF12 hFe hx2 hf2 hP2
  have HKK := hid hk
  clear hk
  go_wp2_with fail
  try simp only [hW2, hGe]
  refine bodyPost_ret (v := .tuple #[nvA ⟨1, ts, none, 0, 0⟩, .bool true]) (by simp [results, Tryd.results74, go_sem, f0, f1, f2, nvA]) rfl ⟨?_, ?_⟩
  · exact (hF02.trans (frmOne (b := p)) (fun _ _ h => h.elim) (fun _ _ h => h)).trans (frm3 (F := F)) (fun _ _ h => h) (fun k hk e => by have e : k = F := e; have := HFE.out; omega)
  · refine ⟨⟨1, ts, none, 0, 0⟩, i + 1, rfl, ?_, ?_, rfl, by omega⟩
    · exact leaf_ndr
    · exact (HP2.out.step HK4.out).frmS frm3 (fun e => by have e : p = F := e; omega) (fun e => by have e : g = F := e; have := HP2.out.gp; have := HSZ.out; have := HFE.out; omega)
set_option maxRecDepth 100000 in
set_option maxHeartbeats 1000000 in
theorem atom_lit (_n : Nat) (p g cap : Nat) (tl : List Tp) (i o B : Nat) (w : World) (h : Par w p g cap tl i o) (hpB : p < B) (hBw : B ≤ w.heap.size) (hlt : i < tl.length) (t : Tp) (ht : tl[i] = t) (hok : (seenAt 4096 i t.1).k ≠ 0) (hk' : t.1.k = 2) :
    Calls Tryd.prog 74 #[.pointer (some ⟨p, 0, none⟩)] w (ARes w p g cap tl i o B (some (some (.mk 2 t.1.s []), rest tl (i + 1)))) := by
  have hl := h.tk.len
  have hw := wrap_succ2 (n := i) (by omega)
  have HH := hid h
  have HP := hid (peek_any p g cap tl i o _ (h.frm ((Frm.refl No w).alloc (.cells #[.int .i64 0, .string ⟨#[]⟩, .slice none 0 0] 41))))
  rw [ht] at HP
  have hFp : ¬ w.heap.size = p := by have := h.size; omega
  have HSZ := hid h.size
  have HNZ := hid hok
  have HK4 : Hid (tl[i].1.k ≠ 4) := hid (by rw [ht, hk']; decide)
  obtain ⟨⟨tk, ts⟩, tx, ty⟩ := t
  have hk : tk = 2 := hk'
  have z1 : (((tk : Nat) : Int) == 1) = false := by rw [hk]; rfl
  have z2 : (((tk : Nat) : Int) == 2) = true := by rw [hk]; rfl
  have HBW := hid hBw
  have HPB := hid hpB
  clear hl h ht hok hk' hBw hpB
  go_enter Tryd.func74, Tryd.ntmps74
  go_wp2_with fail
  refine HP.out.mono ?_
  intro e w1 hp
  rcases peeked_or hp with ⟨h0, -⟩ | ⟨-, rfl, -, hF1⟩
  · exact absurd h0 HNZ.out
  unfold tokA
  clear hp HP
  have hF01 : Frm No w w1 := ((Frm.refl No w).alloc _).thenNo hF1
  obtain ⟨F, hFe⟩ : ∃ F, w.heap.size = F := ⟨_, rfl⟩
  have hf1 : ∀ j, w1.cell? ⟨F, j, none⟩ = (#[.int .i64 0, .string ⟨#[]⟩, .slice none 0 0] : Array Value)[j]? := fun j => by rw [← hFe]; exact hF1.box j
  have hz1 : ∀ j, w1.frozen? ⟨F, j, none⟩ = false := fun j => by rw [← hFe]; exact (hF1.frozen (p := ⟨w.heap.size, j, none⟩) (by rw [World.size_alloc]; exact Nat.lt_succ_self _) (fun h => h)).trans (World.frozen?_alloc_at _ _ _ _ rfl)
  have hs1 := hF1.size
  rw [World.size_alloc, hFe] at hs1
  rw [hFe] at hFp
  have HFE := hid hFe
  simp only [hFe]
  have hx2 : ∀ j, (w1.alloc (.cells #[.int .i64 (tk : Int), .string ⟨ts.toArray⟩, .int .i64 tx, .int .i64 ty] 38)).cell? ⟨w1.heap.size, j, none⟩ = (#[.int .i64 (tk : Int), .string ⟨ts.toArray⟩, .int .i64 tx, .int .i64 ty] : Array Value)[j]? := fun j => World.cell?_alloc_at _ _ _ _ rfl
  have hF12 : Frm No w1 (w1.alloc (.cells #[.int .i64 (tk : Int), .string ⟨ts.toArray⟩, .int .i64 tx, .int .i64 ty] 38)) := (Frm.refl No w1).alloc _
  have hs2 : (w1.alloc (.cells #[.int .i64 (tk : Int), .string ⟨ts.toArray⟩, .int .i64 tx, .int .i64 ty] 38)).heap.size = w1.heap.size + 1 := World.size_alloc _ _
  obtain ⟨G, hGe⟩ : ∃ G, w1.heap.size = G := ⟨_, rfl⟩
  obtain ⟨W2, hW2⟩ : ∃ W2, w1.alloc (.cells #[.int .i64 (tk : Int), .string ⟨ts.toArray⟩, .int .i64 tx, .int .i64 ty] 38) = W2 := ⟨_, rfl⟩
  rw [hW2] at hx2 hF12 hs2
  rw [hGe] at hx2 hs2 hs1
  have hF02 : Frm No w W2 := hF01.thenNo hF12
  have hP2 := HH.out.frm hF02
  have hf2 : ∀ j, W2.cell? ⟨F, j, none⟩ = (#[.int .i64 0, .string ⟨#[]⟩, .slice none 0 0] : Array Value)[j]? := fun j => (hF12.cell (p := ⟨F, j, none⟩) (by show F < _; omega) (fun h => h)).trans (hf1 j)
  have hz2 : ∀ j, W2.frozen? ⟨F, j, none⟩ = false := fun j => (hF12.frozen (p := ⟨F, j, none⟩) (by show F < _; omega) (fun h => h)).trans (hz1 j)
  have k0 := hx2 0
  have k1 := hx2 1
  have f0 := hf2 0
  have f1 := hf2 1
  have f2 := hf2 2
  have c1 := hP2.c1
  have pf := hP2.f
  have hpF : ¬ p = F := fun e => hFp e.symm
  have hpG : ¬ p = G := by have := HSZ.out; omega
  have hGp : ¬ G = p := fun e => hpG e.symm
  have hFG : ¬ F = G := by omega
  have hGF : ¬ G = F := fun e => hFG e.symm
  have HP2 := hid hP2
  clear hf1 hz1 hF1 hF01 hF12 hFe hx2 hf2 hP2
  have HKK := hid hk
  clear hk
  go_wp2_with fail
  try simp only [hW2, hGe]
  refine bodyPost_ret (v := .tuple #[nvA ⟨2, ts, none, 0, 0⟩, .bool true]) (by simp [results, Tryd.results74, go_sem, f0, f1, f2, nvA]) rfl ⟨?_, ?_⟩
  · exact (hF02.trans (frmOne (b := p)) (fun _ _ h => h.elim) (fun _ _ h => h)).trans (frm3 (F := F)) (fun _ _ h => h) (fun k hk e => by have e : k = F := e; have := HFE.out; omega)
  · refine ⟨⟨2, ts, none, 0, 0⟩, i + 1, rfl, ?_, ?_, rfl, by omega⟩
    · exact leaf_ndr
    · exact (HP2.out.step HK4.out).frmS frm3 (fun e => by have e : p = F := e; omega) (fun e => by have e : g = F := e; have := HP2.out.gp; have := HSZ.out; have := HFE.out; omega)
set_option maxRecDepth 100000 in
set_option maxHeartbeats 1000000 in
theorem atom_bad (_n : Nat) (p g cap : Nat) (tl : List Tp) (i o B : Nat) (w : World) (h : Par w p g cap tl i o) (_hpB : p < B) (_hBw : B ≤ w.heap.size) (hlt : i < tl.length) (t : Tp) (ht : tl[i] = t) (hok : (seenAt 4096 i t.1).k = 0) :
    Calls Tryd.prog 74 #[.pointer (some ⟨p, 0, none⟩)] w (ARes w p g cap tl i o B (none)) := by
  have hl := h.tk.len
  have hw := wrap_succ2 (n := i) (by omega)
  have HH := hid h
  have HP := hid (peek_any p g cap tl i o _ (h.frm ((Frm.refl No w).alloc (.cells #[.int .i64 0, .string ⟨#[]⟩, .slice none 0 0] 41))))
  rw [ht] at HP
  have hFp : ¬ w.heap.size = p := by have := h.size; omega
  have HSZ := hid h.size
  have HNZ := hid hok
  clear hl h ht hok _hBw _hpB hw
  go_enter Tryd.func74, Tryd.ntmps74
  go_wp2_with fail
  refine HP.out.mono ?_
  intro e w1 hp
  rcases peeked_or hp with ⟨h0, hwr, hF⟩ | ⟨h0, -⟩
  · obtain ⟨ch, rfl, hwr⟩ := wrong_panic hwr
    clear hp h0
    go_wp2_with fail
    exact ⟨rfl, ((Frm.refl No w).alloc _).trans hF (fun _ _ h => h.elim) (fun _ _ h => h), hwr⟩
  · exact absurd HNZ.out h0
set_option maxRecDepth 100000 in
set_option maxHeartbeats 1000000 in
theorem atom_end (_n : Nat) (p g cap : Nat) (tl : List Tp) (i o B : Nat) (w : World) (h : Par w p g cap tl i o) (hpB : p < B) (hBw : B ≤ w.heap.size) (hlt : i < tl.length) (t : Tp) (ht : tl[i] = t) (hok : (seenAt 4096 i t.1).k ≠ 0) (hk' : t.1.k = 4) :
    Calls Tryd.prog 74 #[.pointer (some ⟨p, 0, none⟩)] w (ARes w p g cap tl i o B (some (none, rest tl i))) := by
  have hl := h.tk.len
  have hw := wrap_succ2 (n := i) (by omega)
  have HH := hid h
  have HP := hid (peek_any p g cap tl i o _ (h.frm ((Frm.refl No w).alloc (.cells #[.int .i64 0, .string ⟨#[]⟩, .slice none 0 0] 41))))
  rw [ht] at HP
  have hFp : ¬ w.heap.size = p := by have := h.size; omega
  have HSZ := hid h.size
  have HNZ := hid hok
  obtain ⟨⟨tk, ts⟩, tx, ty⟩ := t
  have hk : tk = 4 := hk'
  have z1 : (((tk : Nat) : Int) == 1) = false := by rw [hk]; rfl
  have z2 : (((tk : Nat) : Int) == 2) = false := by rw [hk]; rfl
  have z3 : (((tk : Nat) : Int) == 3) = false := by rw [hk]; rfl
  have HBW := hid hBw
  have HPB := hid hpB
  clear hl h ht hok hk' hBw hpB
  go_enter Tryd.func74, Tryd.ntmps74
  go_wp2_with fail
  refine HP.out.mono ?_
  intro e w1 hp
  rcases peeked_or hp with ⟨h0, -⟩ | ⟨-, rfl, -, hF1⟩
  · exact absurd h0 HNZ.out
  unfold tokA
  clear hp HP
  have hF01 : Frm No w w1 := ((Frm.refl No w).alloc _).thenNo hF1
  obtain ⟨F, hFe⟩ : ∃ F, w.heap.size = F := ⟨_, rfl⟩
  have hf1 : ∀ j, w1.cell? ⟨F, j, none⟩ = (#[.int .i64 0, .string ⟨#[]⟩, .slice none 0 0] : Array Value)[j]? := fun j => by rw [← hFe]; exact hF1.box j
  have hz1 : ∀ j, w1.frozen? ⟨F, j, none⟩ = false := fun j => by rw [← hFe]; exact (hF1.frozen (p := ⟨w.heap.size, j, none⟩) (by rw [World.size_alloc]; exact Nat.lt_succ_self _) (fun h => h)).trans (World.frozen?_alloc_at _ _ _ _ rfl)
  have hs1 := hF1.size
  rw [World.size_alloc, hFe] at hs1
  rw [hFe] at hFp
  have HFE := hid hFe
  simp only [hFe]
  have hx2 : ∀ j, (w1.alloc (.cells #[.int .i64 (tk : Int), .string ⟨ts.toArray⟩, .int .i64 tx, .int .i64 ty] 38)).cell? ⟨w1.heap.size, j, none⟩ = (#[.int .i64 (tk : Int), .string ⟨ts.toArray⟩, .int .i64 tx, .int .i64 ty] : Array Value)[j]? := fun j => World.cell?_alloc_at _ _ _ _ rfl
  have hF12 : Frm No w1 (w1.alloc (.cells #[.int .i64 (tk : Int), .string ⟨ts.toArray⟩, .int .i64 tx, .int .i64 ty] 38)) := (Frm.refl No w1).alloc _
  have hs2 : (w1.alloc (.cells #[.int .i64 (tk : Int), .string ⟨ts.toArray⟩, .int .i64 tx, .int .i64 ty] 38)).heap.size = w1.heap.size + 1 := World.size_alloc _ _
  obtain ⟨G, hGe⟩ : ∃ G, w1.heap.size = G := ⟨_, rfl⟩
  obtain ⟨W2, hW2⟩ : ∃ W2, w1.alloc (.cells #[.int .i64 (tk : Int), .string ⟨ts.toArray⟩, .int .i64 tx, .int .i64 ty] 38) = W2 := ⟨_, rfl⟩
  rw [hW2] at hx2 hF12 hs2
  rw [hGe] at hx2 hs2 hs1
  have hF02 : Frm No w W2 := hF01.thenNo hF12
  have hP2 := HH.out.frm hF02
  have hf2 : ∀ j, W2.cell? ⟨F, j, none⟩ = (#[.int .i64 0, .string ⟨#[]⟩, .slice none 0 0] : Array Value)[j]? := fun j => (hF12.cell (p := ⟨F, j, none⟩) (by show F < _; omega) (fun h => h)).trans (hf1 j)
  have hz2 : ∀ j, W2.frozen? ⟨F, j, none⟩ = false := fun j => (hF12.frozen (p := ⟨F, j, none⟩) (by show F < _; omega) (fun h => h)).trans (hz1 j)
  have k0 := hx2 0
  have k1 := hx2 1
  have f0 := hf2 0
  have f1 := hf2 1
  have f2 := hf2 2
  have c1 := hP2.c1
  have pf := hP2.f
  have hpF : ¬ p = F := fun e => hFp e.symm
  have hpG : ¬ p = G := by have := HSZ.out; omega
  have hGp : ¬ G = p := fun e => hpG e.symm
  have hFG : ¬ F = G := by omega
  have hGF : ¬ G = F := fun e => hFG e.symm
  have HP2 := hid hP2
  clear hf1 hz1 hF1 hF01 hF12 hFe hx2 hf2 hP2
  have HKK := hid hk
  clear hk
  go_wp2_with fail
  try simp only [hW2, hGe]
  refine bodyPost_ret (v := .tuple #[nvA ⟨0, [], none, 0, 0⟩, .bool false]) (by simp [results, Tryd.results74, go_sem, f0, f1, f2, nvA]) rfl ⟨?_, rfl, ?_, rfl⟩
  · exact hF02.trans (frm3 (F := F)) (fun _ _ h => h.elim) (fun k hk e => by have e : k = F := e; have := HFE.out; omega)
  · exact HP2.out.frmS frm3 (fun e => by have e : p = F := e; omega) (fun e => by have e : g = F := e; have := HP2.out.gp; have := HSZ.out; have := HFE.out; omega)
set_option maxRecDepth 100000 in
set_option maxHeartbeats 1000000 in
theorem atom_other (_n : Nat) (p g cap : Nat) (tl : List Tp) (i o B : Nat) (w : World) (h : Par w p g cap tl i o) (hpB : p < B) (hBw : B ≤ w.heap.size) (hlt : i < tl.length) (t : Tp) (ht : tl[i] = t) (hok : (seenAt 4096 i t.1).k ≠ 0) (hk' : t.1.k = 3) (hno : ∀ c ∈ [(40 : UInt8), 91, 123], t.1.s ≠ [c]) :
    Calls Tryd.prog 74 #[.pointer (some ⟨p, 0, none⟩)] w (ARes w p g cap tl i o B (some (none, rest tl i))) := by
  have hl := h.tk.len
  have hw := wrap_succ2 (n := i) (by omega)
  have HH := hid h
  have HP := hid (peek_any p g cap tl i o _ (h.frm ((Frm.refl No w).alloc (.cells #[.int .i64 0, .string ⟨#[]⟩, .slice none 0 0] 41))))
  rw [ht] at HP
  have hFp : ¬ w.heap.size = p := by have := h.size; omega
  have HSZ := hid h.size
  have HNZ := hid hok
  obtain ⟨⟨tk, ts⟩, tx, ty⟩ := t
  have hk : tk = 3 := hk'
  have z1 : (((tk : Nat) : Int) == 1) = false := by rw [hk]; rfl
  have z2 : (((tk : Nat) : Int) == 2) = false := by rw [hk]; rfl
  have z3 : (((tk : Nat) : Int) == 3) = true := by rw [hk]; rfl
  have s40 : (ts == [40]) = false := by rw [beq_eq_false_iff_ne]; exact fun e => hno 40 (by simp) e
  have s91 : (ts == [91]) = false := by rw [beq_eq_false_iff_ne]; exact fun e => hno 91 (by simp) e
  have s123 : (ts == [123]) = false := by rw [beq_eq_false_iff_ne]; exact fun e => hno 123 (by simp) e
  have HBW := hid hBw
  have HPB := hid hpB
  clear hl h ht hok hk' hBw hpB hno
  go_enter Tryd.func74, Tryd.ntmps74
  go_wp2_with fail
  refine HP.out.mono ?_
  intro e w1 hp
  rcases peeked_or hp with ⟨h0, -⟩ | ⟨-, rfl, -, hF1⟩
  · exact absurd h0 HNZ.out
  unfold tokA
  clear hp HP
  have hF01 : Frm No w w1 := ((Frm.refl No w).alloc _).thenNo hF1
  obtain ⟨F, hFe⟩ : ∃ F, w.heap.size = F := ⟨_, rfl⟩
  have hf1 : ∀ j, w1.cell? ⟨F, j, none⟩ = (#[.int .i64 0, .string ⟨#[]⟩, .slice none 0 0] : Array Value)[j]? := fun j => by rw [← hFe]; exact hF1.box j
  have hz1 : ∀ j, w1.frozen? ⟨F, j, none⟩ = false := fun j => by rw [← hFe]; exact (hF1.frozen (p := ⟨w.heap.size, j, none⟩) (by rw [World.size_alloc]; exact Nat.lt_succ_self _) (fun h => h)).trans (World.frozen?_alloc_at _ _ _ _ rfl)
  have hs1 := hF1.size
  rw [World.size_alloc, hFe] at hs1
  rw [hFe] at hFp
  have HFE := hid hFe
  simp only [hFe]
  have hx2 : ∀ j, (w1.alloc (.cells #[.int .i64 (tk : Int), .string ⟨ts.toArray⟩, .int .i64 tx, .int .i64 ty] 38)).cell? ⟨w1.heap.size, j, none⟩ = (#[.int .i64 (tk : Int), .string ⟨ts.toArray⟩, .int .i64 tx, .int .i64 ty] : Array Value)[j]? := fun j => World.cell?_alloc_at _ _ _ _ rfl
  have hF12 : Frm No w1 (w1.alloc (.cells #[.int .i64 (tk : Int), .string ⟨ts.toArray⟩, .int .i64 tx, .int .i64 ty] 38)) := (Frm.refl No w1).alloc _
  have hs2 : (w1.alloc (.cells #[.int .i64 (tk : Int), .string ⟨ts.toArray⟩, .int .i64 tx, .int .i64 ty] 38)).heap.size = w1.heap.size + 1 := World.size_alloc _ _
  obtain ⟨G, hGe⟩ : ∃ G, w1.heap.size = G := ⟨_, rfl⟩
  obtain ⟨W2, hW2⟩ : ∃ W2, w1.alloc (.cells #[.int .i64 (tk : Int), .string ⟨ts.toArray⟩, .int .i64 tx, .int .i64 ty] 38) = W2 := ⟨_, rfl⟩
  rw [hW2] at hx2 hF12 hs2
  rw [hGe] at hx2 hs2 hs1
  have hF02 : Frm No w W2 := hF01.thenNo hF12
  have hP2 := HH.out.frm hF02
  have hf2 : ∀ j, W2.cell? ⟨F, j, none⟩ = (#[.int .i64 0, .string ⟨#[]⟩, .slice none 0 0] : Array Value)[j]? := fun j => (hF12.cell (p := ⟨F, j, none⟩) (by show F < _; omega) (fun h => h)).trans (hf1 j)
  have hz2 : ∀ j, W2.frozen? ⟨F, j, none⟩ = false := fun j => (hF12.frozen (p := ⟨F, j, none⟩) (by show F < _; omega) (fun h => h)).trans (hz1 j)
  have k0 := hx2 0
  have k1 := hx2 1
  have f0 := hf2 0
  have f1 := hf2 1
  have f2 := hf2 2
  have c1 := hP2.c1
  have pf := hP2.f
  have hpF : ¬ p = F := fun e => hFp e.symm
  have hpG : ¬ p = G := by have := HSZ.out; omega
  have hGp : ¬ G = p := fun e => hpG e.symm
  have hFG : ¬ F = G := by omega
  have hGF : ¬ G = F := fun e => hFG e.symm
  have HP2 := hid hP2
  clear hf1 hz1 hF1 hF01 hF12 hFe hx2 hf2 hP2
  have HKK := hid hk
  clear hk
  go_wp2_with fail
  try simp only [hW2, hGe]
  refine bodyPost_ret (v := .tuple #[nvA ⟨0, [], none, 0, 0⟩, .bool false]) (by simp [results, Tryd.results74, go_sem, f0, f1, f2, nvA]) rfl ⟨?_, rfl, ?_, rfl⟩
  · exact hF02.trans (frm3 (F := F)) (fun _ _ h => h.elim) (fun k hk e => by have e : k = F := e; have := HFE.out; omega)
  · exact HP2.out.frmS frm3 (fun e => by have e : p = F := e; omega) (fun e => by have e : g = F := e; have := HP2.out.gp; have := HSZ.out; have := HFE.out; omega)
set_option maxRecDepth 100000 in
set_option maxHeartbeats 1000000 in
theorem atom_paren (n : Nat) (hA : AroundOK n) (p g cap : Nat) (tl : List Tp) (i o B : Nat) (w : World) (h : Par w p g cap tl i o) (hpB : p < B) (hBw : B ≤ w.heap.size) (hlt : i < tl.length) (t : Tp) (ht : tl[i] = t) (hok : (seenAt 4096 i t.1).k ≠ 0) (hk' : t.1.k = 3) (hts' : t.1.s = [40]) (hn : 4 * (tl.length - i) + 1 ≤ n + 1) :
    Calls Tryd.prog 74 #[.pointer (some ⟨p, 0, none⟩)] w (ARes w p g cap tl i o B ((Gr.pAround n o 41 (rest tl (i + 1))).map fun q => (some (q.1), q.2))) := by
  have hl := h.tk.len
  have hw := wrap_succ2 (n := i) (by omega)
  have HH := hid h
  have HP := hid (peek_any p g cap tl i o _ (h.frm ((Frm.refl No w).alloc (.cells #[.int .i64 0, .string ⟨#[]⟩, .slice none 0 0] 41))))
  rw [ht] at HP
  have hFp : ¬ w.heap.size = p := by have := h.size; omega
  have HSZ := hid h.size
  have HNZ := hid hok
  have HK4 : Hid (tl[i].1.k ≠ 4) := hid (by rw [ht, hk']; decide)
  obtain ⟨⟨tk, ts⟩, tx, ty⟩ := t
  have hk : tk = 3 := hk'
  have hts : ts = [40] := hts'
  have z1 : (((tk : Nat) : Int) == 1) = false := by rw [hk]; rfl
  have z2 : (((tk : Nat) : Int) == 2) = false := by rw [hk]; rfl
  have z3 : (((tk : Nat) : Int) == 3) = true := by rw [hk]; rfl
  have s40 : (ts == [40]) = true := by rw [hts]; rfl
  have HBW := hid hBw
  have HPB := hid hpB
  have HN : Hid (4 * (tl.length - (i + 1)) + 4 ≤ n) := hid (by omega)
  obtain ⟨R1, hR1⟩ : ∃ R1, Gr.pAround n o 41 (rest tl (i + 1)) = R1 := ⟨_, rfl⟩
  rw [hR1]
  have HR1 := hid hR1
  obtain ⟨R, hR⟩ : ∃ R : Option (Option Gr.Nd × List Gr.Tk), R1.map (fun q => (some (q.1), q.2)) = R := ⟨_, rfl⟩
  rw [hR]
  have HR := hid hR
  clear hl h ht hok hk' hts' hBw hpB hn hR1 hR hw
  go_enter Tryd.func74, Tryd.ntmps74
  go_wp2_with fail
  refine HP.out.mono ?_
  intro e w1 hp
  rcases peeked_or hp with ⟨h0, -⟩ | ⟨-, rfl, -, hF1⟩
  · exact absurd h0 HNZ.out
  unfold tokA
  clear hp HP
  have hF01 : Frm No w w1 := ((Frm.refl No w).alloc _).thenNo hF1
  obtain ⟨F, hFe⟩ : ∃ F, w.heap.size = F := ⟨_, rfl⟩
  have hf1 : ∀ j, w1.cell? ⟨F, j, none⟩ = (#[.int .i64 0, .string ⟨#[]⟩, .slice none 0 0] : Array Value)[j]? := fun j => by rw [← hFe]; exact hF1.box j
  have hz1 : ∀ j, w1.frozen? ⟨F, j, none⟩ = false := fun j => by rw [← hFe]; exact (hF1.frozen (p := ⟨w.heap.size, j, none⟩) (by rw [World.size_alloc]; exact Nat.lt_succ_self _) (fun h => h)).trans (World.frozen?_alloc_at _ _ _ _ rfl)
  have hs1 := hF1.size
  rw [World.size_alloc, hFe] at hs1
  rw [hFe] at hFp
  have HFE := hid hFe
  simp only [hFe]
  have hx2 : ∀ j, (w1.alloc (.cells #[.int .i64 (tk : Int), .string ⟨ts.toArray⟩, .int .i64 tx, .int .i64 ty] 38)).cell? ⟨w1.heap.size, j, none⟩ = (#[.int .i64 (tk : Int), .string ⟨ts.toArray⟩, .int .i64 tx, .int .i64 ty] : Array Value)[j]? := fun j => World.cell?_alloc_at _ _ _ _ rfl
  have hF12 : Frm No w1 (w1.alloc (.cells #[.int .i64 (tk : Int), .string ⟨ts.toArray⟩, .int .i64 tx, .int .i64 ty] 38)) := (Frm.refl No w1).alloc _
  have hs2 : (w1.alloc (.cells #[.int .i64 (tk : Int), .string ⟨ts.toArray⟩, .int .i64 tx, .int .i64 ty] 38)).heap.size = w1.heap.size + 1 := World.size_alloc _ _
  obtain ⟨G, hGe⟩ : ∃ G, w1.heap.size = G := ⟨_, rfl⟩
  obtain ⟨W2, hW2⟩ : ∃ W2, w1.alloc (.cells #[.int .i64 (tk : Int), .string ⟨ts.toArray⟩, .int .i64 tx, .int .i64 ty] 38) = W2 := ⟨_, rfl⟩
  rw [hW2] at hx2 hF12 hs2
  rw [hGe] at hx2 hs2 hs1
  have hF02 : Frm No w W2 := hF01.thenNo hF12
  have hP2 := HH.out.frm hF02
  have hf2 : ∀ j, W2.cell? ⟨F, j, none⟩ = (#[.int .i64 0, .string ⟨#[]⟩, .slice none 0 0] : Array Value)[j]? := fun j => (hF12.cell (p := ⟨F, j, none⟩) (by show F < _; omega) (fun h => h)).trans (hf1 j)
  have hz2 : ∀ j, W2.frozen? ⟨F, j, none⟩ = false := fun j => (hF12.frozen (p := ⟨F, j, none⟩) (by show F < _; omega) (fun h => h)).trans (hz1 j)
  have k0 := hx2 0
  have k1 := hx2 1
  have f0 := hf2 0
  have f1 := hf2 1
  have f2 := hf2 2
  have c1 := hP2.c1
  have pf := hP2.f
  have hpF : ¬ p = F := fun e => hFp e.symm
  have hpG : ¬ p = G := by have := HSZ.out; omega
  have hGp : ¬ G = p := fun e => hpG e.symm
  have hFG : ¬ F = G := by omega
  have hGF : ¬ G = F := fun e => hFG e.symm
  have HP2 := hid hP2
  clear hf1 hz1 hF1 hF01 hF12 hFe hx2 hf2 hP2
  have HKK := hid hk
  have HTS := hid hts
  clear hk hts
  go_wp2_with fail
  try simp only [hW2, hGe]
  refine (hA p g cap tl i o W2.heap.size 41 W2 HP2.out (fun _ => HK4.out) (by have := HSZ.out; have := HFE.out; omega) (Nat.le_refl _) HN.out).mono ?_
  intro e w3 hp
  rw [HR1.out] at hp
  obtain ⟨hF3, hp⟩ := hp
  have hF03 : Frm (One p) w w3 := hF02.trans hF3 (fun _ _ h => h.elim) (fun _ _ h => h)
  cases R1 with
  | none =>
    have HRN : Hid (R = none) := hid (by rw [← HR.out]; rfl)
    obtain ⟨ch, rfl, hwr⟩ := wrong_panic hp
    go_wp2_with fail
    refine ⟨rfl, hF03, ?_⟩
    rw [HRN.out]
    exact hwr
  | some pr =>
    obtain ⟨d, ts2⟩ := pr
    obtain ⟨x, i', rfl, hN, hP3, rfl, hii⟩ := hp
    have HRN : Hid (R = some (some (d), rest tl i')) := hid (by rw [← HR.out]; rfl)
    have hs3 := hF3.size
    have z5 : ∀ j, w3.frozen? ⟨F, j, none⟩ = false := fun j => (hF3.frozen (p := ⟨F, j, none⟩) (by show F < _; omega) (fun e => hFp e)).trans (hz2 j)
    have g0 := (hF3.cell (p := ⟨F, 0, none⟩) (by show F < _; omega) (fun e => hFp e)).trans f0
    have g1 := (hF3.cell (p := ⟨F, 1, none⟩) (by show F < _; omega) (fun e => hFp e)).trans f1
    have g2 := (hF3.cell (p := ⟨F, 2, none⟩) (by show F < _; omega) (fun e => hFp e)).trans f2
    have HN3 := hid hN
    have HP3 := hid hP3
    clear hN hP3 k0 k1 f0 f1 f2 hz2 c1 pf
    unfold nvA
    go_wp2_with fail
    try simp only [hW2, hGe]
    refine bodyPost_ret (v := .tuple #[nvA x, .bool true]) (by simp [results, Tryd.results74, go_sem, g0, g1, g2, nvA]) rfl ⟨?_, ?_⟩
    · exact hF03.trans (frm3 (F := F)) (fun _ _ h => h) (fun k hk e => by have e : k = F := e; have := HFE.out; omega)
    · rw [HRN.out]
      refine ⟨x, i', rfl, ?_, ?_, rfl, by omega⟩
      · exact NdR.base (by have := HBW.out; have := HFE.out; omega) d x (NdR.frm frm3 (fun k hk _ e => by have e : k = F := e; omega) d x HN3.out)
      · exact HP3.out.frmS frm3 (fun e => by have e : p = F := e; omega) (fun e => by have e : g = F := e; have := HP3.out.gp; have := HSZ.out; have := HFE.out; omega)
set_option maxRecDepth 100000 in
set_option maxHeartbeats 1000000 in
theorem atom_brack (n : Nat) (hA : AroundOK n) (p g cap : Nat) (tl : List Tp) (i o B : Nat) (w : World) (h : Par w p g cap tl i o) (hpB : p < B) (hBw : B ≤ w.heap.size) (hlt : i < tl.length) (t : Tp) (ht : tl[i] = t) (hok : (seenAt 4096 i t.1).k ≠ 0) (hk' : t.1.k = 3) (hts' : t.1.s = [91]) (hn : 4 * (tl.length - i) + 1 ≤ n + 1) :
    Calls Tryd.prog 74 #[.pointer (some ⟨p, 0, none⟩)] w (ARes w p g cap tl i o B ((Gr.pAround n o 93 (rest tl (i + 1))).map fun q => (some (.mk 5 [] [q.1]), q.2))) := by
  have hl := h.tk.len
  have hw := wrap_succ2 (n := i) (by omega)
  have HH := hid h
  have HP := hid (peek_any p g cap tl i o _ (h.frm ((Frm.refl No w).alloc (.cells #[.int .i64 0, .string ⟨#[]⟩, .slice none 0 0] 41))))
  rw [ht] at HP
  have hFp : ¬ w.heap.size = p := by have := h.size; omega
  have HSZ := hid h.size
  have HNZ := hid hok
  have HK4 : Hid (tl[i].1.k ≠ 4) := hid (by rw [ht, hk']; decide)
  obtain ⟨⟨tk, ts⟩, tx, ty⟩ := t
  have hk : tk = 3 := hk'
  have hts : ts = [91] := hts'
  have z1 : (((tk : Nat) : Int) == 1) = false := by rw [hk]; rfl
  have z2 : (((tk : Nat) : Int) == 2) = false := by rw [hk]; rfl
  have z3 : (((tk : Nat) : Int) == 3) = true := by rw [hk]; rfl
  have s40 : (ts == [40]) = false := by rw [hts]; rfl
  have s91 : (ts == [91]) = true := by rw [hts]; rfl
  have HBW := hid hBw
  have HPB := hid hpB
  have HN : Hid (4 * (tl.length - (i + 1)) + 4 ≤ n) := hid (by omega)
  obtain ⟨R1, hR1⟩ : ∃ R1, Gr.pAround n o 93 (rest tl (i + 1)) = R1 := ⟨_, rfl⟩
  rw [hR1]
  have HR1 := hid hR1
  obtain ⟨R, hR⟩ : ∃ R : Option (Option Gr.Nd × List Gr.Tk), R1.map (fun q => (some (.mk 5 [] [q.1]), q.2)) = R := ⟨_, rfl⟩
  rw [hR]
  have HR := hid hR
  clear hl h ht hok hk' hts' hBw hpB hn hR1 hR hw
  go_enter Tryd.func74, Tryd.ntmps74
  go_wp2_with fail
  refine HP.out.mono ?_
  intro e w1 hp
  rcases peeked_or hp with ⟨h0, -⟩ | ⟨-, rfl, -, hF1⟩
  · exact absurd h0 HNZ.out
  unfold tokA
  clear hp HP
  have hF01 : Frm No w w1 := ((Frm.refl No w).alloc _).thenNo hF1
  obtain ⟨F, hFe⟩ : ∃ F, w.heap.size = F := ⟨_, rfl⟩
  have hf1 : ∀ j, w1.cell? ⟨F, j, none⟩ = (#[.int .i64 0, .string ⟨#[]⟩, .slice none 0 0] : Array Value)[j]? := fun j => by rw [← hFe]; exact hF1.box j
  have hz1 : ∀ j, w1.frozen? ⟨F, j, none⟩ = false := fun j => by rw [← hFe]; exact (hF1.frozen (p := ⟨w.heap.size, j, none⟩) (by rw [World.size_alloc]; exact Nat.lt_succ_self _) (fun h => h)).trans (World.frozen?_alloc_at _ _ _ _ rfl)
  have hs1 := hF1.size
  rw [World.size_alloc, hFe] at hs1
  rw [hFe] at hFp
  have HFE := hid hFe
  simp only [hFe]
  have hx2 : ∀ j, (w1.alloc (.cells #[.int .i64 (tk : Int), .string ⟨ts.toArray⟩, .int .i64 tx, .int .i64 ty] 38)).cell? ⟨w1.heap.size, j, none⟩ = (#[.int .i64 (tk : Int), .string ⟨ts.toArray⟩, .int .i64 tx, .int .i64 ty] : Array Value)[j]? := fun j => World.cell?_alloc_at _ _ _ _ rfl
  have hF12 : Frm No w1 (w1.alloc (.cells #[.int .i64 (tk : Int), .string ⟨ts.toArray⟩, .int .i64 tx, .int .i64 ty] 38)) := (Frm.refl No w1).alloc _
  have hs2 : (w1.alloc (.cells #[.int .i64 (tk : Int), .string ⟨ts.toArray⟩, .int .i64 tx, .int .i64 ty] 38)).heap.size = w1.heap.size + 1 := World.size_alloc _ _
  obtain ⟨G, hGe⟩ : ∃ G, w1.heap.size = G := ⟨_, rfl⟩
  obtain ⟨W2, hW2⟩ : ∃ W2, w1.alloc (.cells #[.int .i64 (tk : Int), .string ⟨ts.toArray⟩, .int .i64 tx, .int .i64 ty] 38) = W2 := ⟨_, rfl⟩
  rw [hW2] at hx2 hF12 hs2
  rw [hGe] at hx2 hs2 hs1
  have hF02 : Frm No w W2 := hF01.thenNo hF12
  have hP2 := HH.out.frm hF02
  have hf2 : ∀ j, W2.cell? ⟨F, j, none⟩ = (#[.int .i64 0, .string ⟨#[]⟩, .slice none 0 0] : Array Value)[j]? := fun j => (hF12.cell (p := ⟨F, j, none⟩) (by show F < _; omega) (fun h => h)).trans (hf1 j)
  have hz2 : ∀ j, W2.frozen? ⟨F, j, none⟩ = false := fun j => (hF12.frozen (p := ⟨F, j, none⟩) (by show F < _; omega) (fun h => h)).trans (hz1 j)
  have k0 := hx2 0
  have k1 := hx2 1
  have f0 := hf2 0
  have f1 := hf2 1
  have f2 := hf2 2
  have c1 := hP2.c1
  have pf := hP2.f
  have hpF : ¬ p = F := fun e => hFp e.symm
  have hpG : ¬ p = G := by have := HSZ.out; omega
  have hGp : ¬ G = p := fun e => hpG e.symm
  have hFG : ¬ F = G := by omega
  have hGF : ¬ G = F := fun e => hFG e.symm
  have HP2 := hid hP2
  clear hf1 hz1 hF1 hF01 hF12 hFe hx2 hf2 hP2
  have HKK := hid hk
  have HTS := hid hts
  clear hk hts
  go_wp2_with fail
  try simp only [hW2, hGe]
  refine (hA p g cap tl i o W2.heap.size 93 W2 HP2.out (fun _ => HK4.out) (by have := HSZ.out; have := HFE.out; omega) (Nat.le_refl _) HN.out).mono ?_
  intro e w3 hp
  rw [HR1.out] at hp
  obtain ⟨hF3, hp⟩ := hp
  have hF03 : Frm (One p) w w3 := hF02.trans hF3 (fun _ _ h => h.elim) (fun _ _ h => h)
  cases R1 with
  | none =>
    have HRN : Hid (R = none) := hid (by rw [← HR.out]; rfl)
    obtain ⟨ch, rfl, hwr⟩ := wrong_panic hp
    go_wp2_with fail
    refine ⟨rfl, hF03, ?_⟩
    rw [HRN.out]
    exact hwr
  | some pr =>
    obtain ⟨d, ts2⟩ := pr
    obtain ⟨x, i', rfl, hN, hP3, rfl, hii⟩ := hp
    have HRN : Hid (R = some (some (.mk 5 [] [d]), rest tl i')) := hid (by rw [← HR.out]; rfl)
    have hs3 := hF3.size
    have z5 : ∀ j, w3.frozen? ⟨F, j, none⟩ = false := fun j => (hF3.frozen (p := ⟨F, j, none⟩) (by show F < _; omega) (fun e => hFp e)).trans (hz2 j)
    have g0 := (hF3.cell (p := ⟨F, 0, none⟩) (by show F < _; omega) (fun e => hFp e)).trans f0
    have g1 := (hF3.cell (p := ⟨F, 1, none⟩) (by show F < _; omega) (fun e => hFp e)).trans f1
    have g2 := (hF3.cell (p := ⟨F, 2, none⟩) (by show F < _; omega) (fun e => hFp e)).trans f2
    have HN3 := hid hN
    have HP3 := hid hP3
    clear hN hP3 k0 k1 f0 f1 f2 hz2 c1 pf
    unfold nvA
    have a0 := fun o' => (((Frm.refl No w3).alloc o').cell (p := ⟨F, 0, none⟩) (by show F < _; omega) (fun h => h)).trans g0
    have a1 := fun o' => (((Frm.refl No w3).alloc o').cell (p := ⟨F, 1, none⟩) (by show F < _; omega) (fun h => h)).trans g1
    have a2 := fun o' => (((Frm.refl No w3).alloc o').cell (p := ⟨F, 2, none⟩) (by show F < _; omega) (fun h => h)).trans g2
    have az := fun o' j => (((Frm.refl No w3).alloc o').frozen (p := ⟨F, j, none⟩) (by show F < _; omega) (fun h => h)).trans (z5 j)
    go_wp2_with fail
    try simp only [hW2, hGe]
    refine bodyPost_ret (v := .tuple #[nvA ⟨5, [], some ⟨w3.heap.size, 0, none⟩, 1, 1⟩, .bool true]) (by simp [results, Tryd.results74, go_sem, a0, a1, a2, nvA]) rfl ⟨?_, ?_⟩
    · exact (hF03.alloc _).trans (frm3 (F := F)) (fun _ _ h => h) (fun k hk e => by have e : k = F := e; have := HFE.out; omega)
    · rw [HRN.out]
      refine ⟨⟨5, [], some ⟨w3.heap.size, 0, none⟩, 1, 1⟩, i', rfl, ?_, ?_, rfl, by omega⟩
      · exact NdR.base (by have := HBW.out; have := HFE.out; omega) _ _ (NdR.frm frm3 (fun k hk _ e => by have e : k = F := e; omega) _ _ (kid_ndr hs3 HN3.out))
      · exact (HP3.out.frm ((Frm.refl No w3).alloc _)).frmS frm3 (fun e => by have e : p = F := e; omega) (fun e => by have e : g = F := e; have := HP3.out.gp; have := HSZ.out; have := HFE.out; omega)
set_option maxRecDepth 100000 in
set_option maxHeartbeats 1000000 in
theorem atom_brace (n : Nat) (hA : AroundOK n) (p g cap : Nat) (tl : List Tp) (i o B : Nat) (w : World) (h : Par w p g cap tl i o) (hpB : p < B) (hBw : B ≤ w.heap.size) (hlt : i < tl.length) (t : Tp) (ht : tl[i] = t) (hok : (seenAt 4096 i t.1).k ≠ 0) (hk' : t.1.k = 3) (hts' : t.1.s = [123]) (hn : 4 * (tl.length - i) + 1 ≤ n + 1) :
    Calls Tryd.prog 74 #[.pointer (some ⟨p, 0, none⟩)] w (ARes w p g cap tl i o B ((Gr.pAround n o 125 (rest tl (i + 1))).map fun q => (some (.mk 6 [] [q.1]), q.2))) := by
  have hl := h.tk.len
  have hw := wrap_succ2 (n := i) (by omega)
  have HH := hid h
  have HP := hid (peek_any p g cap tl i o _ (h.frm ((Frm.refl No w).alloc (.cells #[.int .i64 0, .string ⟨#[]⟩, .slice none 0 0] 41))))
  rw [ht] at HP
  have hFp : ¬ w.heap.size = p := by have := h.size; omega
  have HSZ := hid h.size
  have HNZ := hid hok
  have HK4 : Hid (tl[i].1.k ≠ 4) := hid (by rw [ht, hk']; decide)
  obtain ⟨⟨tk, ts⟩, tx, ty⟩ := t
  have hk : tk = 3 := hk'
  have hts : ts = [123] := hts'
  have z1 : (((tk : Nat) : Int) == 1) = false := by rw [hk]; rfl
  have z2 : (((tk : Nat) : Int) == 2) = false := by rw [hk]; rfl
  have z3 : (((tk : Nat) : Int) == 3) = true := by rw [hk]; rfl
  have s40 : (ts == [40]) = false := by rw [hts]; rfl
  have s91 : (ts == [91]) = false := by rw [hts]; rfl
  have s123 : (ts == [123]) = true := by rw [hts]; rfl
  have HBW := hid hBw
  have HPB := hid hpB
  have HN : Hid (4 * (tl.length - (i + 1)) + 4 ≤ n) := hid (by omega)
  obtain ⟨R1, hR1⟩ : ∃ R1, Gr.pAround n o 125 (rest tl (i + 1)) = R1 := ⟨_, rfl⟩
  rw [hR1]
  have HR1 := hid hR1
  obtain ⟨R, hR⟩ : ∃ R : Option (Option Gr.Nd × List Gr.Tk), R1.map (fun q => (some (.mk 6 [] [q.1]), q.2)) = R := ⟨_, rfl⟩
  rw [hR]
  have HR := hid hR
  clear hl h ht hok hk' hts' hBw hpB hn hR1 hR hw
  go_enter Tryd.func74, Tryd.ntmps74
  go_wp2_with fail
  refine HP.out.mono ?_
  intro e w1 hp
  rcases peeked_or hp with ⟨h0, -⟩ | ⟨-, rfl, -, hF1⟩
  · exact absurd h0 HNZ.out
  unfold tokA
  clear hp HP
  have hF01 : Frm No w w1 := ((Frm.refl No w).alloc _).thenNo hF1
  obtain ⟨F, hFe⟩ : ∃ F, w.heap.size = F := ⟨_, rfl⟩
  have hf1 : ∀ j, w1.cell? ⟨F, j, none⟩ = (#[.int .i64 0, .string ⟨#[]⟩, .slice none 0 0] : Array Value)[j]? := fun j => by rw [← hFe]; exact hF1.box j
  have hz1 : ∀ j, w1.frozen? ⟨F, j, none⟩ = false := fun j => by rw [← hFe]; exact (hF1.frozen (p := ⟨w.heap.size, j, none⟩) (by rw [World.size_alloc]; exact Nat.lt_succ_self _) (fun h => h)).trans (World.frozen?_alloc_at _ _ _ _ rfl)
  have hs1 := hF1.size
  rw [World.size_alloc, hFe] at hs1
  rw [hFe] at hFp
  have HFE := hid hFe
  simp only [hFe]
  have hx2 : ∀ j, (w1.alloc (.cells #[.int .i64 (tk : Int), .string ⟨ts.toArray⟩, .int .i64 tx, .int .i64 ty] 38)).cell? ⟨w1.heap.size, j, none⟩ = (#[.int .i64 (tk : Int), .string ⟨ts.toArray⟩, .int .i64 tx, .int .i64 ty] : Array Value)[j]? := fun j => World.cell?_alloc_at _ _ _ _ rfl
  have hF12 : Frm No w1 (w1.alloc (.cells #[.int .i64 (tk : Int), .string ⟨ts.toArray⟩, .int .i64 tx, .int .i64 ty] 38)) := (Frm.refl No w1).alloc _
  have hs2 : (w1.alloc (.cells #[.int .i64 (tk : Int), .string ⟨ts.toArray⟩, .int .i64 tx, .int .i64 ty] 38)).heap.size = w1.heap.size + 1 := World.size_alloc _ _
  obtain ⟨G, hGe⟩ : ∃ G, w1.heap.size = G := ⟨_, rfl⟩
  obtain ⟨W2, hW2⟩ : ∃ W2, w1.alloc (.cells #[.int .i64 (tk : Int), .string ⟨ts.toArray⟩, .int .i64 tx, .int .i64 ty] 38) = W2 := ⟨_, rfl⟩
  rw [hW2] at hx2 hF12 hs2
  rw [hGe] at hx2 hs2 hs1
  have hF02 : Frm No w W2 := hF01.thenNo hF12
  have hP2 := HH.out.frm hF02
  have hf2 : ∀ j, W2.cell? ⟨F, j, none⟩ = (#[.int .i64 0, .string ⟨#[]⟩, .slice none 0 0] : Array Value)[j]? := fun j => (hF12.cell (p := ⟨F, j, none⟩) (by show F < _; omega) (fun h => h)).trans (hf1 j)
  have hz2 : ∀ j, W2.frozen? ⟨F, j, none⟩ = false := fun j => (hF12.frozen (p := ⟨F, j, none⟩) (by show F < _; omega) (fun h => h)).trans (hz1 j)
  have k0 := hx2 0
  have k1 := hx2 1
  have f0 := hf2 0
  have f1 := hf2 1
  have f2 := hf2 2
  have c1 := hP2.c1
  have pf := hP2.f
  have hpF : ¬ p = F := fun e => hFp e.symm
  have hpG : ¬ p = G := by have := HSZ.out; omega
  have hGp : ¬ G = p := fun e => hpG e.symm
  have hFG : ¬ F = G := by omega
  have hGF : ¬ G = F := fun e => hFG e.symm
  have HP2 := hid hP2
  clear hf1 hz1 hF1 hF01 hF12 hFe hx2 hf2 hP2
  have HKK := hid hk
  have HTS := hid hts
  clear hk hts
  go_wp2_with fail
  try simp only [hW2, hGe]
  refine (hA p g cap tl i o W2.heap.size 125 W2 HP2.out (fun _ => HK4.out) (by have := HSZ.out; have := HFE.out; omega) (Nat.le_refl _) HN.out).mono ?_
  intro e w3 hp
  rw [HR1.out] at hp
  obtain ⟨hF3, hp⟩ := hp
  have hF03 : Frm (One p) w w3 := hF02.trans hF3 (fun _ _ h => h.elim) (fun _ _ h => h)
  cases R1 with
  | none =>
    have HRN : Hid (R = none) := hid (by rw [← HR.out]; rfl)
    obtain ⟨ch, rfl, hwr⟩ := wrong_panic hp
    go_wp2_with fail
    refine ⟨rfl, hF03, ?_⟩
    rw [HRN.out]
    exact hwr
  | some pr =>
    obtain ⟨d, ts2⟩ := pr
    obtain ⟨x, i', rfl, hN, hP3, rfl, hii⟩ := hp
    have HRN : Hid (R = some (some (.mk 6 [] [d]), rest tl i')) := hid (by rw [← HR.out]; rfl)
    have hs3 := hF3.size
    have z5 : ∀ j, w3.frozen? ⟨F, j, none⟩ = false := fun j => (hF3.frozen (p := ⟨F, j, none⟩) (by show F < _; omega) (fun e => hFp e)).trans (hz2 j)
    have g0 := (hF3.cell (p := ⟨F, 0, none⟩) (by show F < _; omega) (fun e => hFp e)).trans f0
    have g1 := (hF3.cell (p := ⟨F, 1, none⟩) (by show F < _; omega) (fun e => hFp e)).trans f1
    have g2 := (hF3.cell (p := ⟨F, 2, none⟩) (by show F < _; omega) (fun e => hFp e)).trans f2
    have HN3 := hid hN
    have HP3 := hid hP3
    clear hN hP3 k0 k1 f0 f1 f2 hz2 c1 pf
    unfold nvA
    have a0 := fun o' => (((Frm.refl No w3).alloc o').cell (p := ⟨F, 0, none⟩) (by show F < _; omega) (fun h => h)).trans g0
    have a1 := fun o' => (((Frm.refl No w3).alloc o').cell (p := ⟨F, 1, none⟩) (by show F < _; omega) (fun h => h)).trans g1
    have a2 := fun o' => (((Frm.refl No w3).alloc o').cell (p := ⟨F, 2, none⟩) (by show F < _; omega) (fun h => h)).trans g2
    have az := fun o' j => (((Frm.refl No w3).alloc o').frozen (p := ⟨F, j, none⟩) (by show F < _; omega) (fun h => h)).trans (z5 j)
    go_wp2_with fail
    try simp only [hW2, hGe]
    refine bodyPost_ret (v := .tuple #[nvA ⟨6, [], some ⟨w3.heap.size, 0, none⟩, 1, 1⟩, .bool true]) (by simp [results, Tryd.results74, go_sem, a0, a1, a2, nvA]) rfl ⟨?_, ?_⟩
    · exact (hF03.alloc _).trans (frm3 (F := F)) (fun _ _ h => h) (fun k hk e => by have e : k = F := e; have := HFE.out; omega)
    · rw [HRN.out]
      refine ⟨⟨6, [], some ⟨w3.heap.size, 0, none⟩, 1, 1⟩, i', rfl, ?_, ?_, rfl, by omega⟩
      · exact NdR.base (by have := HBW.out; have := HFE.out; omega) _ _ (NdR.frm frm3 (fun k hk _ e => by have e : k = F := e; omega) _ _ (kid_ndr hs3 HN3.out))
      · exact (HP3.out.frm ((Frm.refl No w3).alloc _)).frmS frm3 (fun e => by have e : p = F := e; omega) (fun e => by have e : g = F := e; have := HP3.out.gp; have := HSZ.out; have := HFE.out; omega)
end Go.Proofs.YtebocnpbiiejmaaDoor
