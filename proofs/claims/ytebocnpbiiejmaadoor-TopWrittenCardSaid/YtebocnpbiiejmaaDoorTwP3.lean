/- Trees in memory; the parser's brackets. -/
import Derived.Test.YtebocnpbiiejmaaDoorTwP12
namespace Go.Proofs.YtebocnpbiiejmaaDoor
open Go.RowKit
/-- a node's value -/
structure Nv where
  k : Nat
  s : List UInt8
  ao : Option Addr
  n : Nat
  c : Nat
def Nv.v (x : Nv) : Value := .slice x.ao x.n x.c
def nvC (x : Nv) : List Value := [.int .i64 (x.k : Int), .string ⟨x.s.toArray⟩, .slice x.ao x.n x.c]
def nvA (x : Nv) : Value := .agg #[.int .i64 (x.k : Int), .string ⟨x.s.toArray⟩, .slice x.ao x.n x.c]
theorem nv_shp : Shp nvC 3 := ⟨fun _ => rfl, fun x u hu => by
  simp only [nvC, List.mem_cons, List.not_mem_nil, or_false] at hu
  rcases hu with rfl | rfl | rfl <;> rfl⟩
mutual
/-- a tree whose rows lie in such blocks -/
def NdQ (w : World) (Q : Nat → Prop) : Gr.Nd → Nv → Prop
  | .mk k s l, x => x.k = k ∧ x.s = s ∧ (∀ b, x.v.ownBlock = some b → Q b) ∧ ∃ xs : List Nv, w.ownsRow 0 41 3 x.v xs.length (rows nvC xs) ∧ NdRs w Q l xs
def NdRs (w : World) (Q : Nat → Prop) : List Gr.Nd → List Nv → Prop
  | [], xs => xs = []
  | d :: l, xs => ∃ (x : Nv) (ys : List Nv), xs = x :: ys ∧ NdQ w Q d x ∧ NdRs w Q l ys
end
mutual
theorem NdQ.frm {w w1 : World} {Q : Nat → Prop} {S : Nat → Prop} (hf : Frm S w w1) (hS : ∀ k, Q k → k < w.heap.size → ¬ S k) : ∀ (d : Gr.Nd) (x : Nv), NdQ w Q d x → NdQ w1 Q d x
  | .mk _ _ l, _, ⟨h1, h2, hq, xs, ho, hk⟩ => ⟨h1, h2, hq, xs, hf.row ho (fun k hk => hS k (hq k hk) (ho.lt k hk).2), NdRs.frm hf hS l xs hk⟩
theorem NdRs.frm {w w1 : World} {Q : Nat → Prop} {S : Nat → Prop} (hf : Frm S w w1) (hS : ∀ k, Q k → k < w.heap.size → ¬ S k) : ∀ (l : List Gr.Nd) (xs : List Nv), NdRs w Q l xs → NdRs w1 Q l xs
  | [], _, h => h
  | d :: l, _, ⟨x, ys, e, h1, h2⟩ => ⟨x, ys, e, NdQ.frm hf hS d x h1, NdRs.frm hf hS l ys h2⟩
end
mutual
theorem NdQ.mono {w : World} {Q Q' : Nat → Prop} (hB : ∀ k, Q k → k < w.heap.size → Q' k) : ∀ (d : Gr.Nd) (x : Nv), NdQ w Q d x → NdQ w Q' d x
  | .mk _ _ l, _, ⟨h1, h2, hq, xs, ho, hk⟩ => ⟨h1, h2, fun b hb => hB b (hq b hb) (ho.lt b hb).2, xs, ho, NdRs.mono hB l xs hk⟩
theorem NdRs.mono {w : World} {Q Q' : Nat → Prop} (hB : ∀ k, Q k → k < w.heap.size → Q' k) : ∀ (l : List Gr.Nd) (xs : List Nv), NdRs w Q l xs → NdRs w Q' l xs
  | [], _, h => h
  | d :: l, _, ⟨x, ys, e, h1, h2⟩ => ⟨x, ys, e, NdQ.mono hB d x h1, NdRs.mono hB l ys h2⟩
end
/-- a tree that was built from block B on -/
def NdR (w : World) (B : Nat) (d : Gr.Nd) (x : Nv) : Prop := NdQ w (Ge B) d x
theorem NdR.frm {w w1 : World} {B : Nat} {S : Nat → Prop} (hf : Frm S w w1) (hS : ∀ k, B ≤ k → k < w.heap.size → ¬ S k) (d : Gr.Nd) (x : Nv) (h : NdR w B d x) : NdR w1 B d x := NdQ.frm hf hS d x h
theorem NdR.base {w : World} {B B' : Nat} (hB : B' ≤ B) (d : Gr.Nd) (x : Nv) (h : NdR w B d x) : NdR w B' d x := NdQ.mono (fun _k hk _ => Nat.le_trans hB hk) d x h
theorem NdRs.len {w : World} {B : Nat → Prop} : ∀ {l : List Gr.Nd} {xs : List Nv}, NdRs w B l xs → xs.length = l.length := by
  intro l
  induction l with
  | nil => intro xs h; have h : xs = [] := h; rw [h]; rfl
  | cons d l ih =>
    intro xs h
    obtain ⟨x, ys, rfl, _, h2⟩ := h
    rw [List.length_cons, List.length_cons, ih h2]
theorem NdRs.snoc {w : World} {B : Nat → Prop} : ∀ {l : List Gr.Nd} {xs : List Nv} {d : Gr.Nd} {x : Nv}, NdRs w B l xs → NdQ w B d x → NdRs w B (l ++ [d]) (xs ++ [x]) := by
  intro l
  induction l with
  | nil => intro xs d x h hd; have h : xs = [] := h; rw [h]; exact ⟨x, [], rfl, hd, rfl⟩
  | cons e l ih =>
    intro xs d x h hd
    obtain ⟨y, ys, rfl, h1, h2⟩ := h
    exact ⟨y, ys ++ [x], rfl, h1, ih h2 hd⟩
theorem rest_len {tl : List Tp} {i : Nat} : (rest tl i).length = tl.length - i := by
  have : ∀ (l : List Gr.Tk) (n : Nat), (Gr.seen n l).length = l.length := by
    intro l
    induction l with
    | nil => intro n; cases n <;> rfl
    | cons a l ih =>
      intro n
      cases n with
      | zero => show (Gr.seen 0 l).length + 1 = _; rw [ih]; rfl
      | succ n => show (Gr.seen n l).length + 1 = _; rw [ih]; rfl
  unfold rest
  rw [List.length_drop, this, List.length_map]
/-- a tree was parsed, or something was thrown -/
def PRes (w : World) (p g cap : Nat) (tl : List Tp) (i o B : Nat) (r : Option (Gr.Nd × List Gr.Tk)) (e : Ending) (w' : World) : Prop :=
  Frm (One p) w w' ∧ match r with
  | none => Wrong e
  | some (d, ts) => ∃ (x : Nv) (i' : Nat), e = .returned (nvA x) ∧ NdR w' B d x ∧ Par w' p g cap tl i' o ∧ ts = rest tl i' ∧ i ≤ i'
def AltOK (n : Nat) : Prop := ∀ (p g cap : Nat) (tl : List Tp) (i o B : Nat) (w : World), Par w p g cap tl i o → p < B → B ≤ w.heap.size → 4 * (tl.length - i) + 3 ≤ n →
  Calls Tryd.prog 34 #[.pointer (some ⟨p, 0, none⟩)] w (PRes w p g cap tl i o B (Gr.pAlt n o (rest tl i)))
def RowOK (n : Nat) : Prop := ∀ (p g cap : Nat) (tl : List Tp) (i o B : Nat) (w : World), Par w p g cap tl i o → p < B → B ≤ w.heap.size → 4 * (tl.length - i) + 2 ≤ n →
  Calls Tryd.prog 60 #[.pointer (some ⟨p, 0, none⟩)] w (PRes w p g cap tl i o B (Gr.pRow n o [] (rest tl i)))
def AroundOK (n : Nat) : Prop := ∀ (p g cap : Nat) (tl : List Tp) (i o B : Nat) (c : UInt8) (w : World), Par w p g cap tl i o → (∀ h : i < tl.length, tl[i].1.k ≠ 4) → p < B → B ≤ w.heap.size → 4 * (tl.length - (i + 1)) + 4 ≤ n →
  Calls Tryd.prog 82 #[.pointer (some ⟨p, 0, none⟩), .string ⟨#[c]⟩] w (PRes w p g cap tl (i + 1) o B (Gr.pAround n o c (rest tl (i + 1))))
theorem Par.frmS {w w1 : World} {p g cap : Nat} {tl : List Tp} {i o : Nat} {S : Nat → Prop} (h : Par w p g cap tl i o) (hf : Frm S w w1) (hp : ¬ S p) (hg : ¬ S g) : Par w1 p g cap tl i o :=
  ⟨(hf.cell (p := ⟨p, 0, none⟩) h.size hp).trans h.c0, (hf.cell (p := ⟨p, 1, none⟩) h.size hp).trans h.c1, (hf.cell (p := ⟨p, 2, none⟩) h.size hp).trans h.c2,
    fun j => (hf.frozen (p := ⟨p, j, none⟩) h.size hp).trans (h.f j), h.tk.frm hf hg, h.lt, h.gp, h.o16⟩
theorem frm3 {w : World} {F : Nat} {a b c : Value} : Frm (One F) w (((w.setCell ⟨F, 0, none⟩ a).setCell ⟨F, 1, none⟩ b).setCell ⟨F, 2, none⟩ c) := (frmOne.then_ frmOne).then_ frmOne
/-- a throw goes through -/
theorem wrong_panic {e : Ending} (h : Wrong e) : ∃ ch, e = .panicked ch ∧ Wrong (.panicked ch) := by
  obtain ⟨x, y, z, hz, rfl⟩ := h
  exact ⟨_, rfl, x, y, z, hz, rfl⟩
set_option maxRecDepth 100000 in
set_option maxHeartbeats 1000000 in
theorem around_step (n : Nat) (hA : AltOK n) : AroundOK (n + 1) := by
  intro p g cap tl i o B c w h hk4 hpB hBw hn
  have hl := h.tk.len
  have hlt := h.lt
  have ho := h.o16
  have hw := wrap_succ2 (n := i) (by omega)
  have HW2 : Hid (IntKind.wrap .i64 ((o : Int) + 1) = ((o + 1 : Nat) : Int)) := hid (wrap_succ2 (by omega))
  obtain ⟨R, hR⟩ : ∃ R, Gr.pAround (n + 1) o c (rest tl (i + 1)) = R := ⟨_, rfl⟩
  rw [hR]
  rw [Gr.pAround] at hR
  have HR := hid hR
  have HH := hid h
  have HA : ∀ o', Par (w.alloc o') p g cap tl i o := fun o' => h.frm ((Frm.refl No w).alloc o')
  have a1 := fun o' => (HA o').c1
  have a2 := fun o' => (HA o').c2
  have af := fun o' => (HA o').f
  have hFp : ¬ w.heap.size = p := by have := h.size; omega
  have HSZ := hid h.size
  by_cases h16 : o = 16
  · have z16 : (((o : Nat) : Int) == 16) = true := by rw [h16]; rfl
    have HRN : Hid (R = none) := hid (by rw [← HR.out, if_pos h16])
    clear h16 hR hn hl ho h HA
    go_enter Tryd.func82, Tryd.ntmps82
    go_wp2_with fail
    refine (pfail_any p g cap tl i o 11 _ (HH.out.frm ((Frm.refl No w).alloc _)) (by decide)).mono ?_
    rintro e w2 ⟨⟨x, y, z, hz, rfl⟩, hF2⟩
    go_wp2_with fail
    refine ⟨rfl, ((Frm.refl No w).alloc _).trans hF2 (fun _ _ h => h.elim) (fun _ _ h => h), ?_⟩
    rw [HRN.out]
    exact ⟨x, y, z, hz, rfl⟩
  · have z16 : (((o : Nat) : Int) == 16) = false := by rw [beq_eq_false_iff_ne]; omega
    have HO : Hid (o + 1 ≤ 16) := hid (by omega)
    have HN := hid hn
    have HO16 := hid h16
    have HK4 := hid (hk4 hlt)
    have HBW := hid hBw
    have HPB := hid hpB
    clear h16 hR hn hl ho h hk4 HA hBw hpB
    go_enter Tryd.func82, Tryd.ntmps82
    have hw2 := HW2.out
    go_wp2_with fail
    obtain ⟨W1, hW1⟩ : ∃ W1, ((w.alloc (.cells #[.int .i64 0, .string ⟨#[]⟩, .slice none 0 0] 41)).setCell ⟨p, 2, none⟩ (.int .i64 ((o + 1 : Nat) : Int))).setCell ⟨p, 1, none⟩ (.int .i64 ((i + 1 : Nat) : Int)) = W1 := ⟨_, rfl⟩
    have hP1 : Par W1 p g cap tl (i + 1) (o + 1) := by
      rw [← hW1]
      exact ((HH.out.frm ((Frm.refl No w).alloc _)).set2 HO.out).step HK4.out
    have hF1 : Frm (One p) w W1 := by
      rw [← hW1]
      exact (((Frm.refl (One p) w).alloc _).then_ frmOne).then_ frmOne
    have hF1' : ∀ j, W1.cell? ⟨w.heap.size, j, none⟩ = (#[.int .i64 0, .string ⟨#[]⟩, .slice none 0 0] : Array Value)[j]? := fun j => by
      rw [← hW1]
      exact (World.cell?_setCell_other _ _ _ _ (by simp)).trans ((World.cell?_setCell_other _ _ _ _ (by simp)).trans (World.cell?_alloc_at _ _ _ _ rfl))
    have hZ1 : ∀ j, W1.frozen? ⟨w.heap.size, j, none⟩ = false := fun j => by
      rw [← hW1]
      exact (World.frozen?_setCell _ _ _ _).trans ((World.frozen?_setCell _ _ _ _).trans (World.frozen?_alloc_at _ _ _ _ rfl))
    have hsz1 : W1.heap.size = w.heap.size + 1 := by rw [← hW1]; simp [World.setCell]
    simp only [Int.natCast_add, Int.cast_ofNat_Int] at hW1
    try simp only [hW1]
    refine (hA p g cap tl (i + 1) (o + 1) W1.heap.size W1 hP1 (by have := HSZ.out; omega) (Nat.le_refl _) (by have := HN.out; omega)).mono ?_
    intro e w3 hp
    obtain ⟨F, hFe⟩ : ∃ F, w.heap.size = F := ⟨_, rfl⟩
    rw [hFe] at hF1' hZ1 hsz1 hFp
    have HFE := hid hFe
    clear hW1 hw hw2 a1 a2 af z16 HW2
    simp only [hFe]
    obtain ⟨hF3, hp⟩ := hp
    have hF13 := hF1.then_ hF3
    cases ha : Gr.pAlt n (o + 1) (rest tl (i + 1)) with
    | none =>
      rw [ha] at hp
      have HRN : Hid (R = none) := hid (by rw [← HR.out, if_neg HO16.out, ha])
      obtain ⟨ch, rfl, hwr⟩ := wrong_panic hp
      clear ha HR
      go_wp2_with fail
      refine ⟨rfl, hF13, ?_⟩
      rw [HRN.out]
      exact hwr
    | some pr =>
      obtain ⟨d, ts⟩ := pr
      rw [ha] at hp
      obtain ⟨x, i', rfl, hN, hP3, rfl, hii⟩ := hp
      have HRT : Hid (R = (Gr.take c (rest tl i')).map fun r1 => (d, r1)) := hid (by rw [← HR.out, if_neg HO16.out, ha])
      have hFc3 : ∀ j, w3.cell? ⟨F, j, none⟩ = (#[.int .i64 0, .string ⟨#[]⟩, .slice none 0 0] : Array Value)[j]? := fun j => (hF3.cell (p := ⟨F, j, none⟩) (by show F < _; omega) (fun e => hFp e)).trans (hF1' j)
      have hZ3 : ∀ j, w3.frozen? ⟨F, j, none⟩ = false := fun j => (hF3.frozen (p := ⟨F, j, none⟩) (by show F < _; omega) (fun e => hFp e)).trans (hZ1 j)
      have hsz3 := hF3.size
      clear ha HR hF1' hZ1
      unfold nvA
      go_wp2_with fail
      obtain ⟨G, hGe⟩ : ∃ G, w3.heap.size = G := ⟨_, rfl⟩
      have hx4 : ∀ j, (w3.alloc (.cells #[.int .i64 (x.k : Int), .string ⟨x.s.toArray⟩, .slice x.ao x.n x.c] 41)).cell? ⟨G, j, none⟩ = (#[.int .i64 (x.k : Int), .string ⟨x.s.toArray⟩, .slice x.ao x.n x.c] : Array Value)[j]? := fun j => by rw [← hGe]; exact World.cell?_alloc_at _ _ _ _ rfl
      have hF4 : Frm No w3 (w3.alloc (.cells #[.int .i64 (x.k : Int), .string ⟨x.s.toArray⟩, .slice x.ao x.n x.c] 41)) := (Frm.refl No w3).alloc _
      obtain ⟨W4, hW4⟩ : ∃ W4, w3.alloc (.cells #[.int .i64 (x.k : Int), .string ⟨x.s.toArray⟩, .slice x.ao x.n x.c] 41) = W4 := ⟨_, rfl⟩
      have hsz4 : W4.heap.size = G + 1 := by rw [← hW4, World.size_alloc, hGe]
      rw [hW4] at hx4 hF4
      try simp only [hW4, hGe]
      have hP4 := hP3.frm hF4
      have HN4 := hid (NdR.frm hF4 (fun _ _ _ h => h) d x hN)
      refine (ptake_any p g cap tl i' (o + 1) c W4 hP4).mono ?_
      intro e w5 hp5
      obtain ⟨hF5, hp5⟩ := hp5
      have hF15 := (hF13.thenNo hF4).then_ hF5
      cases ht : Gr.take c (rest tl i') with
      | none =>
        rw [ht] at hp5
        have HRN : Hid (R = none) := hid (by rw [HRT.out, ht]; rfl)
        obtain ⟨ch, rfl, hwr⟩ := wrong_panic hp5
        clear ht HRT
        go_wp2_with fail
        refine ⟨rfl, hF15, ?_⟩
        rw [HRN.out]
        exact hwr
      | some ts2 =>
        rw [ht] at hp5
        obtain ⟨rfl, rfl, hP5⟩ := hp5
        have HRN : Hid (R = some (d, rest tl (i' + 1))) := hid (by rw [HRT.out, ht]; rfl)
        have hpG : ¬ G = p := by have := hP3.size; omega
        have hFG : ¬ F = G := by omega
        have hpF : ¬ p = F := fun e => hFp e.symm
        have k5 : ∀ j, w5.cell? ⟨G, j, none⟩ = (#[.int .i64 (x.k : Int), .string ⟨x.s.toArray⟩, .slice x.ao x.n x.c] : Array Value)[j]? := fun j => (hF5.cell (p := ⟨G, j, none⟩) (by show G < _; omega) (fun e => hpG e)).trans (hx4 j)
        have f5 : ∀ j, w5.cell? ⟨F, j, none⟩ = (#[.int .i64 0, .string ⟨#[]⟩, .slice none 0 0] : Array Value)[j]? := fun j => (hF5.cell (p := ⟨F, j, none⟩) (by show F < _; omega) (fun e => hFp e)).trans ((hF4.cell (p := ⟨F, j, none⟩) (by show F < _; omega) (fun h => h)).trans (hFc3 j))
        have z5 : ∀ j, w5.frozen? ⟨F, j, none⟩ = false := fun j => (hF5.frozen (p := ⟨F, j, none⟩) (by show F < _; omega) (fun e => hFp e)).trans ((hF4.frozen (p := ⟨F, j, none⟩) (by show F < _; omega) (fun h => h)).trans (hZ3 j))
        have HN5 := hid (NdR.frm hF5 (fun k hk _ e => by have e : k = p := e; have := HSZ.out; have := HFE.out; omega) d x HN4.out)
        have c5 := hP5.c2
        have p5 := hP5.f
        have k0 := k5 0
        have k1 := k5 1
        have k2 := k5 2
        have f0 := f5 0
        have f1 := f5 1
        have f2 := f5 2
        have HP5 := hid hP5
        have hw : wrap64 ((o : Nat) : Int) = ((o : Nat) : Int) := by have := HO.out; exact IntWalk.wrap64_in _ ⟨by omega, by omega⟩
        clear ht HRT hx4 hFc3 hZ3 hP5 k5 f5 hP3 hP4
        go_wp2_with fail
        refine bodyPost_ret (v := nvA x) (by simp [results, Tryd.results82, go_sem, f0, f1, f2, nvA]) rfl ⟨?_, ?_⟩
        · exact (hF15.then_ frmOne).trans (frm3 (F := F)) (fun _ _ h => h) (fun k hk e => by have e : k = F := e; have := HFE.out; omega)
        · rw [HRN.out]
          refine ⟨x, i' + 1, rfl, ?_, ?_, rfl, by omega⟩
          · have h1 := NdR.frm (frmOne (b := p) (j := 2) (v := .int .i64 (o : Int))) (fun k hk _ e => by have e : k = p := e; have := HSZ.out; have := HFE.out; omega) d x HN5.out
            have h2 := NdR.frm (frm3 (F := F) (a := .int .i64 (x.k : Int)) (b := .string ⟨x.s.toArray⟩) (c := .slice x.ao x.n x.c)) (fun k hk _ e => by have e : k = F := e; omega) d x h1
            exact NdR.base (by have := HBW.out; have := HFE.out; omega) d x h2
          · exact (HP5.out.set2 (by have := HO.out; omega)).frmS frm3 (fun e => by have e : p = F := e; omega) (fun e => by have e : g = F := e; have := HP5.out.gp; have := HSZ.out; have := HFE.out; omega)
end Go.Proofs.YtebocnpbiiejmaaDoor
