/- The parser's recursion closed; rules in memory. -/
import Derived.Test.YtebocnpbiiejmaaDoorTwP6
namespace Go.Proofs.YtebocnpbiiejmaaDoor
open Go.RowKit
theorem parse_all : ∀ n, AltOK n ∧ RowOK n ∧ AtomOK n ∧ AroundOK n := by
  intro n
  induction n using Nat.strongRecOn with
  | ind n ih =>
    cases n with
    | zero =>
      refine ⟨?_, ?_, ?_, ?_⟩
      · intro p g cap tl i o B w h hp hB hn
        omega
      · intro p g cap tl i o B w h hp hB hn
        omega
      · intro p g cap tl i o B w h hp hB hn
        omega
      · intro p g cap tl i o B c w h hk hp hB hn
        omega
    | succ n =>
      exact ⟨alt_step n fun m hm => (ih m (by omega)).2.1, row_step n fun m hm => (ih m (by omega)).2.2.1, atom_step n (ih n (by omega)).2.2.2, around_step n (ih n (by omega)).1⟩
/-- a rule's value -/
structure Rv where
  nm : List UInt8
  x : Nv
def rvC (r : Rv) : List Value := [.string ⟨r.nm.toArray⟩, .int .i64 (r.x.k : Int), .string ⟨r.x.s.toArray⟩, .slice r.x.ao r.x.n r.x.c]
theorem rv_shp : Shp rvC 4 := ⟨fun _ => rfl, fun x u hu => by
  simp only [rvC, List.mem_cons, List.not_mem_nil, or_false] at hu
  rcases hu with rfl | rfl | rfl | rfl <;> rfl⟩
/-- rules in memory -/
def RlsQ (w : World) (Q : Nat → Prop) : List (List UInt8 × Gr.Nd) → List Rv → Prop
  | [], rs => rs = []
  | a :: l, rs => ∃ (r : Rv) (ys : List Rv), rs = r :: ys ∧ r.nm = a.1 ∧ NdQ w Q a.2 r.x ∧ RlsQ w Q l ys
theorem RlsQ.frm {w w1 : World} {Q S : Nat → Prop} (hf : Frm S w w1) (hS : ∀ k, Q k → k < w.heap.size → ¬ S k) : ∀ (l : List (List UInt8 × Gr.Nd)) (rs : List Rv), RlsQ w Q l rs → RlsQ w1 Q l rs
  | [], _, h => h
  | a :: l, _, ⟨r, ys, e, hn, h1, h2⟩ => ⟨r, ys, e, hn, NdQ.frm hf hS a.2 r.x h1, RlsQ.frm hf hS l ys h2⟩
theorem RlsQ.mono {w : World} {Q Q' : Nat → Prop} (hB : ∀ k, Q k → k < w.heap.size → Q' k) : ∀ (l : List (List UInt8 × Gr.Nd)) (rs : List Rv), RlsQ w Q l rs → RlsQ w Q' l rs
  | [], _, h => h
  | a :: l, _, ⟨r, ys, e, hn, h1, h2⟩ => ⟨r, ys, e, hn, NdQ.mono hB a.2 r.x h1, RlsQ.mono hB l ys h2⟩
theorem RlsQ.len {w : World} {Q : Nat → Prop} : ∀ {l : List (List UInt8 × Gr.Nd)} {rs : List Rv}, RlsQ w Q l rs → rs.length = l.length
  | [], _, h => by have h : _ = [] := h; rw [h]; rfl
  | a :: l, _, ⟨r, ys, e, hn, h1, h2⟩ => by rw [e, List.length_cons, List.length_cons, RlsQ.len h2]
theorem RlsQ.snoc {w : World} {Q : Nat → Prop} : ∀ {l : List (List UInt8 × Gr.Nd)} {rs : List Rv} {a : List UInt8 × Gr.Nd} {r : Rv}, RlsQ w Q l rs → r.nm = a.1 → NdQ w Q a.2 r.x → RlsQ w Q (l ++ [a]) (rs ++ [r])
  | [], _, a, r, h, hn, hd => by have h : _ = [] := h; rw [h]; exact ⟨r, [], rfl, hn, hd, rfl⟩
  | b :: l, _, a, r, ⟨y, ys, e, hm, h1, h2⟩, hn, hd => ⟨y, ys ++ [r], by rw [e]; rfl, hm, h1, RlsQ.snoc h2 hn hd⟩
/-- rules under way, all below block T -/
structure Rlz (w : World) (B T : Nat) (v : Value) (acc : List (List UInt8 × Gr.Nd)) (rs : List Rv) : Prop where
  own : w.ownsRow B 43 4 v rs.length (rows rvC rs)
  ob : ∀ k, v.ownBlock = some k → k < T
  kids : RlsQ w (fun k => B ≤ k ∧ v.ownBlock ≠ some k ∧ k < T) acc rs
theorem Rlz.frm {w w1 : World} {B T : Nat} {v : Value} {acc : List (List UInt8 × Gr.Nd)} {rs : List Rv} {S : Nat → Prop} (h : Rlz w B T v acc rs) (hf : Frm S w w1) (hS : ∀ k, B ≤ k → k < T → ¬ S k) : Rlz w1 B T v acc rs :=
  ⟨hf.row h.own (fun k hk => hS k (h.own.lt k hk).1 (h.ob k hk)), h.ob, RlsQ.frm hf (fun k hk _ => hS k hk.1 hk.2.2) _ _ h.kids⟩
theorem Rlz.nil (w : World) (B T : Nat) : Rlz w B T (.slice none 0 0) [] [] := ⟨World.ownsRow_nil _ _ _ _, fun k hk => by simp [Value.ownBlock] at hk, rfl⟩
theorem Rlz.up {w : World} {B T T' : Nat} {v : Value} {acc : List (List UInt8 × Gr.Nd)} {rs : List Rv} (h : Rlz w B T v acc rs) (hT : T ≤ T') : Rlz w B T' v acc rs :=
  ⟨h.own, fun k hk => Nat.lt_of_lt_of_le (h.ob k hk) hT, RlsQ.mono (fun _k hk _ => ⟨hk.1, hk.2.1, Nat.lt_of_lt_of_le hk.2.2 hT⟩) _ _ h.kids⟩
theorem Rlz.push {W w' : World} {B T B5 : Nat} {v v' : Value} {acc : List (List UInt8 × Gr.Nd)} {rs : List Rv} {a : List UInt8 × Gr.Nd} {r : Rv} (h : Rlz W B T v acc rs) (hn : r.nm = a.1) (hx : NdR W B5 a.2 r.x) (hB5 : B ≤ B5) (hT : T ≤ B5)
    (hown : w'.ownsRow B 43 4 v' (rs.length + 1) (rows rvC rs ++ rvC r)) (hd : Frm (Own v) W w') (hv : v'.ownBlock = v.ownBlock ∨ ∃ k, v'.ownBlock = some k ∧ W.heap.size ≤ k) (_hTW : T ≤ W.heap.size) : Rlz w' B w'.heap.size v' (acc ++ [a]) (rs ++ [r]) := by
  have e1 : (rs ++ [r]).length = rs.length + 1 := by simp
  have e2 : rows rvC (rs ++ [r]) = rows rvC rs ++ rvC r := by rw [rows_append]; simp [rows]
  have hsz := hd.size
  have hk1 : RlsQ W (fun k => B ≤ k ∧ v.ownBlock ≠ some k ∧ v'.ownBlock ≠ some k ∧ k < W.heap.size) acc rs := RlsQ.mono (fun k hk hlt => ⟨hk.1, hk.2.1, fun e => by
    rcases hv with hv | ⟨j, hj, hjk⟩
    · exact hk.2.1 (hv ▸ e)
    · rw [hj] at e; cases e; omega, hlt⟩) _ _ h.kids
  have hk2 : NdQ W (fun k => B ≤ k ∧ v.ownBlock ≠ some k ∧ v'.ownBlock ≠ some k ∧ k < W.heap.size) a.2 r.x := NdQ.mono (fun k hk hlt => ⟨Nat.le_trans hB5 hk, fun e => by have := h.ob k e; have hk : B5 ≤ k := hk; omega, fun e => by
    rcases hv with hv | ⟨j, hj, hjk⟩
    · rw [hv] at e; have := h.ob k e; have hk : B5 ≤ k := hk; omega
    · rw [hj] at e; cases e; omega, hlt⟩) _ _ hx
  have h3 := RlsQ.frm hd (fun k hk _ e => hk.2.1 e) _ _ hk1
  have h4 := NdQ.frm hd (fun k hk _ e => hk.2.1 e) _ _ hk2
  refine ⟨by rw [e1, e2]; exact hown, fun k hk => (hown.lt k hk).2, RlsQ.snoc (RlsQ.mono (fun k hk _ => ⟨hk.1, hk.2.2.1, by omega⟩) _ _ h3) hn (NdQ.mono (fun k hk _ => ⟨hk.1, hk.2.2.1, by omega⟩) _ _ h4)⟩
theorem info_rule : (Tryd.prog.info? 43).map (fun i => (i.zero, i.size, i.bytes)) = some (some (.agg #[.string ByteArray.empty, .int .i64 0, .string ByteArray.empty, .slice none 0 0]), 4, 64) := by kernel_rfl
/-- the state of a grammar under way: its start, its rules; the result's block F is still as it was -/
structure GmS (w0 W : World) (p g cap : Nat) (tl : List Tp) (j F T : Nat) (st : List UInt8) (v : Value) (acc : List (List UInt8 × Gr.Nd)) (rs : List Rv) : Prop where
  par : Par W p g cap tl j 0
  e0 : W.cell? ⟨F, 0, none⟩ = some (.string ⟨#[]⟩)
  e1 : W.cell? ⟨F, 1, none⟩ = some (.slice none 0 0)
  ez : ∀ a, W.frozen? ⟨F, a, none⟩ = false
  f0 : W.cell? ⟨F + 1, 0, none⟩ = some (.string ⟨st.toArray⟩)
  f1 : W.cell? ⟨F + 1, 1, none⟩ = some v
  fz : ∀ a, W.frozen? ⟨F + 1, a, none⟩ = false
  its : Rlz W (F + 2) T v acc rs
  frm : Frm (One p) w0 W
  sz : F + 2 ≤ T
  tz : T ≤ W.heap.size
  wz : w0.heap.size = F
  pz : p < F
namespace GmS
variable {w0 W W1 : World} {p g cap : Nat} {tl : List Tp} {j F T : Nat} {st : List UInt8} {v : Value} {acc : List (List UInt8 × Gr.Nd)} {rs : List Rv}
/-- the parser went on -/
theorem on (h : GmS w0 W p g cap tl j F T st v acc rs) (hf : Frm (One p) W W1) {j' : Nat} (hp : Par W1 p g cap tl j' 0) : GmS w0 W1 p g cap tl j' F T st v acc rs := by
  have h1 := h.sz
  have h2 := h.tz
  have h3 := h.pz
  have hF : ∀ k, F ≤ k → ¬ One p k := fun k hk e => by have e : k = p := e; omega
  exact ⟨hp, (hf.cell (p := ⟨F, 0, none⟩) (by show F < _; omega) (hF F (Nat.le_refl _))).trans h.e0, (hf.cell (p := ⟨F, 1, none⟩) (by show F < _; omega) (hF F (Nat.le_refl _))).trans h.e1,
    fun a => (hf.frozen (p := ⟨F, a, none⟩) (by show F < _; omega) (hF F (Nat.le_refl _))).trans (h.ez a),
    (hf.cell (p := ⟨F + 1, 0, none⟩) (by show F + 1 < _; omega) (hF _ (by show F ≤ F + 1; omega))).trans h.f0, (hf.cell (p := ⟨F + 1, 1, none⟩) (by show F + 1 < _; omega) (hF _ (by show F ≤ F + 1; omega))).trans h.f1,
    fun a => (hf.frozen (p := ⟨F + 1, a, none⟩) (by show F + 1 < _; omega) (hF _ (by show F ≤ F + 1; omega))).trans (h.fz a),
    h.its.frm hf (fun k hk _ => hF k (by omega)), h.frm.then_ hf, h.sz, Nat.le_trans h.tz hf.size, h.wz, h.pz⟩
/-- only new blocks came -/
theorem no (h : GmS w0 W p g cap tl j F T st v acc rs) (hf : Frm No W W1) : GmS w0 W1 p g cap tl j F T st v acc rs :=
  h.on (Frm.trans (Frm.refl (One p) W) hf (fun _ _ h => h) (fun _ _ h => h.elim)) (h.par.frm hf)
/-- a store behind all that counts -/
theorem far (h : GmS w0 W p g cap tl j F T st v acc rs) {G : Nat} (hG : T ≤ G) (hf : Frm (One G) W W1) : GmS w0 W1 p g cap tl j F T st v acc rs := by
  have h1 := h.sz
  have h2 := h.tz
  have h3 := h.pz
  have h4 := h.par.gp
  have hF : ∀ k, k < T → ¬ One G k := fun k hk e => by have e : k = G := e; omega
  exact ⟨h.par.frmS hf (hF p (by omega)) (hF g (by omega)), (hf.cell (p := ⟨F, 0, none⟩) (by show F < _; omega) (hF F (by omega))).trans h.e0, (hf.cell (p := ⟨F, 1, none⟩) (by show F < _; omega) (hF F (by omega))).trans h.e1,
    fun a => (hf.frozen (p := ⟨F, a, none⟩) (by show F < _; omega) (hF F (by omega))).trans (h.ez a),
    (hf.cell (p := ⟨F + 1, 0, none⟩) (by show F + 1 < _; omega) (hF _ (by show F + 1 < T; omega))).trans h.f0, (hf.cell (p := ⟨F + 1, 1, none⟩) (by show F + 1 < _; omega) (hF _ (by show F + 1 < T; omega))).trans h.f1,
    fun a => (hf.frozen (p := ⟨F + 1, a, none⟩) (by show F + 1 < _; omega) (hF _ (by show F + 1 < T; omega))).trans (h.fz a),
    h.its.frm hf (fun k _ hk => hF k hk), h.frm.trans hf (fun _ _ h => h) (fun k hk e => by have e : k = G := e; have := h.wz; omega), h.sz, Nat.le_trans h.tz hf.size, h.wz, h.pz⟩
/-- the start is put down -/
theorem start (h : GmS w0 W p g cap tl j F T st v acc rs) (st' : List UInt8) : GmS w0 (W.setCell ⟨F + 1, 0, none⟩ (.string ⟨st'.toArray⟩)) p g cap tl j F T st' v acc rs := by
  have h1 := h.sz
  have h2 := h.tz
  have h3 := h.pz
  have h4 := h.par.gp
  have hf : Frm (One (F + 1)) W (W.setCell ⟨F + 1, 0, none⟩ (.string ⟨st'.toArray⟩)) := frmOne
  have hF : ∀ k, k ≠ F + 1 → ¬ One (F + 1) k := fun k hk e => hk e
  exact ⟨h.par.frmS hf (hF p (by omega)) (hF g (by omega)), (hf.cell (p := ⟨F, 0, none⟩) (by show F < _; omega) (hF F (by omega))).trans h.e0, (hf.cell (p := ⟨F, 1, none⟩) (by show F < _; omega) (hF F (by omega))).trans h.e1,
    fun a => (hf.frozen (p := ⟨F, a, none⟩) (by show F < _; omega) (hF F (by omega))).trans (h.ez a),
    World.cell?_setCell_same _ _ _ h.f0, (World.cell?_setCell_other _ _ _ _ (by simp)).trans h.f1,
    fun a => (World.frozen?_setCell _ _ _ _).trans (h.fz a),
    h.its.frm hf (fun k hk _ => hF k (by omega)), h.frm.trans hf (fun _ _ h => h) (fun k hk e => by have e : k = F + 1 := e; have := h.wz; omega), h.sz, Nat.le_trans h.tz hf.size, h.wz, h.pz⟩
/-- a rule came -/
theorem push (h : GmS w0 W p g cap tl j F T st v acc rs) {B5 : Nat} {v' : Value} {a : List UInt8 × Gr.Nd} {r : Rv} (hn : r.nm = a.1) (hx : NdR W B5 a.2 r.x) (hT : T ≤ B5)
    (hown : W1.ownsRow (F + 2) 43 4 v' (rs.length + 1) (rows rvC rs ++ rvC r)) (hd : Frm (Own v) W W1) (hv : v'.ownBlock = v.ownBlock ∨ ∃ k, v'.ownBlock = some k ∧ W.heap.size ≤ k) :
    GmS w0 (W1.setCell ⟨F + 1, 1, none⟩ v') p g cap tl j F W1.heap.size st v' (acc ++ [a]) (rs ++ [r]) := by
  have h1 := h.sz
  have h2 := h.tz
  have h3 := h.pz
  have h4 := h.par.gp
  have hb : ∀ k, k < F + 2 → ¬ Own v k := fun k hk e => by have := (h.its.own.lt k e).1; omega
  have hI := h.its.push hn hx (by omega) hT hown hd hv h.tz
  have hsz := hd.size
  have hf : Frm (One (F + 1)) W1 (W1.setCell ⟨F + 1, 1, none⟩ v') := frmOne
  have hF : ∀ k, k ≠ F + 1 → ¬ One (F + 1) k := fun k hk e => hk e
  have k0 := (hd.cell (p := ⟨F, 0, none⟩) (by show F < _; omega) (hb F (by omega))).trans h.e0
  have k1 := (hd.cell (p := ⟨F, 1, none⟩) (by show F < _; omega) (hb F (by omega))).trans h.e1
  have k2 := fun a => (hd.frozen (p := ⟨F, a, none⟩) (by show F < _; omega) (hb F (by omega))).trans (h.ez a)
  have q0 := (hd.cell (p := ⟨F + 1, 0, none⟩) (by show F + 1 < _; omega) (hb (F + 1) (by omega))).trans h.f0
  have q1 := (hd.cell (p := ⟨F + 1, 1, none⟩) (by show F + 1 < _; omega) (hb (F + 1) (by omega))).trans h.f1
  have q2 := fun a => (hd.frozen (p := ⟨F + 1, a, none⟩) (by show F + 1 < _; omega) (hb (F + 1) (by omega))).trans (h.fz a)
  have hP := h.par.frmS hd (hb p (by omega)) (hb g (by omega))
  exact ⟨hP.frmS hf (hF p (by omega)) (hF g (by omega)), (hf.cell (p := ⟨F, 0, none⟩) (by show F < _; omega) (hF F (by omega))).trans k0, (hf.cell (p := ⟨F, 1, none⟩) (by show F < _; omega) (hF F (by omega))).trans k1,
    fun a => (hf.frozen (p := ⟨F, a, none⟩) (by show F < _; omega) (hF F (by omega))).trans (k2 a),
    (World.cell?_setCell_other _ _ _ _ (by simp)).trans q0, World.cell?_setCell_same _ _ _ q1,
    fun a => (World.frozen?_setCell _ _ _ _).trans (q2 a),
    hI.frm hf (fun k hk _ => hF k (by omega)), (h.frm.trans hd (fun _ _ h => h) (fun k hk e => absurd e (hb k (by have := h.wz; omega)))).trans hf (fun _ _ h => h) (fun k hk e => by have e : k = F + 1 := e; have := h.wz; omega), by omega, hf.size, h.wz, h.pz⟩
end GmS
/-- a grammar in memory -/
def GmR (w : World) (B : Nat) (gm : Gr.Gm) (v : Value) : Prop :=
  ∃ (rs : List Rv) (ao : Option Addr) (c : Nat), v = .agg #[.string ⟨gm.1.toArray⟩, .slice ao rs.length c] ∧ w.ownsRow B 43 4 (.slice ao rs.length c) rs.length (rows rvC rs) ∧ RlsQ w (Ge B) gm.2 rs
theorem GmR.frm {w w1 : World} {B : Nat} {gm : Gr.Gm} {v : Value} {S : Nat → Prop} (h : GmR w B gm v) (hf : Frm S w w1) (hS : ∀ k, B ≤ k → k < w.heap.size → ¬ S k) : GmR w1 B gm v := by
  obtain ⟨rs, ao, c, e, ho, hk⟩ := h
  exact ⟨rs, ao, c, e, hf.row ho (fun k hk => hS k (ho.lt k hk).1 (ho.lt k hk).2), RlsQ.frm hf (fun k hk hlt => hS k hk hlt) _ _ hk⟩
/-- a grammar was parsed, or something was thrown -/
def GRes (w : World) (p : Nat) (r : Option Gr.Gm) (e : Ending) (w' : World) : Prop :=
  Frm (One p) w w' ∧ match r with
  | none => Wrong e
  | some gm => ∃ v, e = .returned v ∧ GmR w' w.heap.size gm v
end Go.Proofs.YtebocnpbiiejmaaDoor
