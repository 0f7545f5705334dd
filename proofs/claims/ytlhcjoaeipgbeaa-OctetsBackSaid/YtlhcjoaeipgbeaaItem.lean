/- An Item of the octets laws: read from an argument; its kind; the walk of write. -/
import Derived.Test.YtlhcjoaeipgbeaaOctSpeaks
import Derived.Test.YtlhcjoaeipgbeaaOpen
import Derived.Deep.Fields
namespace Go.Proofs.Ytlhcjoaeipgbeaa
open Go.ChangeShapes Go.WideShapes Go.ChangeAt Go.RowKit Go.Deep

theorem RdL.toRd {α : Type} {w : World} {v : Value} {f : α → Value} {cells : α → List Value} {xs : List α} (h : RdL w v 1 cells xs) (hc : ∀ x, cells x = [f x]) : Rd w v xs.length 1 (xs.map f) := by
  refine ⟨by simp, ?_⟩
  rcases h.cells with ⟨rfl, ao, c, rfl⟩ | ⟨b, o, c, rfl, hx⟩
  · exact Or.inl ⟨rfl, _, _, rfl⟩
  · refine Or.inr ⟨b, o, c, rfl, fun j hj => ?_⟩
    have := hx j (by omega) 0 (by omega)
    rw [hc] at this
    simp only [Nat.mul_one, Nat.add_zero] at this
    rw [this]
    have hjl : j < xs.length := by omega
    simp [hjl]

section
variable {H : Type} {enc : TypeId × Value → H} {P : Program} {W : World}
theorem trod_fld {t : TypeId} {fs : Array Field} {fuel : Nat} {cs : List Value} {x : DataW H × List MemPlace} (hs : P.underlying t = some (.struct fs)) (hone : oneCellFields P fs = true)
    (h : DataW.trod enc P W 0 (fun _ => true) true fuel t cs = some x) (j : Nat) (f : Field) (hj : fs[j]? = some f) (c : Value) (hc : cs[j]? = some c) : ∃ n y, DataW.trod enc P W 0 (fun _ => true) true n f.type [c] = some y := by
  obtain ⟨ys, n, -, -, hcl, hyl, hf⟩ := DataW.trod_struct hs h
  obtain ⟨ho, hk⟩ := hone_of hone j f hj
  have hjl : j < fs.size := (Array.getElem?_eq_some_iff.1 hj).1
  have h1 := hf j f hj
  rw [ho, hk] at h1
  have hjc : j < cs.length := by
    rcases Nat.lt_or_ge j cs.length with h | h
    · exact h
    · rw [List.getElem?_eq_none h] at hc; cases hc
  rw [List.getElem?_eq_getElem hjc] at hc
  have hone' : (cs.drop j).take 1 = [c] := by
    rw [List.drop_eq_getElem_cons hjc]
    simp only [Option.some.injEq] at hc
    rw [hc]
    rfl
  rw [hone', List.getElem?_eq_getElem (by omega)] at h1
  exact ⟨n, _, h1⟩
/-- A field that is a slice of plain elements. -/
theorem open_cell_list {α : Type} {t e : TypeId} {c : Value} {n : Nat} {x : DataW H × List MemPlace} {f : α → Value} {good : α → Prop} (ht : P.underlying t = some (.slice e)) (he : P.cellsOf e = 1)
    (h : DataW.trod enc P W 0 (fun _ => true) true n t [c] = some x)
    (hel : ∀ cs n x, cs.length = 1 → DataW.trod enc P W 0 (fun _ => true) true n e cs = some x → ∃ y : α, cs = [f y] ∧ good y) :
    ∃ xs : List α, Rd W c xs.length 1 (xs.map f) ∧ xs.length ≤ maxLen ∧ ∀ y ∈ xs, good y := by
  have hv : ∃ a l cp, c = .slice a l cp := by
    rcases open_slice ht h with ⟨hcs, -⟩ | ⟨a, len, cap, m, n, D, Pl, hcs, -⟩
    · simp at hcs; exact ⟨_, _, _, hcs⟩
    · simp at hcs; exact ⟨_, _, _, hcs⟩
  obtain ⟨a, l, cp, rfl⟩ := hv
  obtain ⟨xs, hr, hl, hg⟩ := open_list (cells := fun y => [f y]) (good := good) ht he (by omega) (v := .slice a l cp) (d := x.1) (ps := x.2) ⟨n, h⟩ ⟨a, l, cp, rfl⟩ hel
  exact ⟨xs, hr.toRd (fun _ => rfl), hl, hg⟩
end

theorem cells_string : Try.prog.cellsOf 9 = 1 := by kernel_rfl
theorem el_string {H : Type} {enc : TypeId × Value → H} {W : World} {cs : List Value} {n : Nat} {x : DataW H × List MemPlace} (h : DataW.trod enc Try.prog W 0 (fun _ => true) true n 9 cs = some x) :
    ∃ y : List UInt8, cs = [.string ⟨y.toArray⟩] ∧ y.length ≤ maxLen := by
  obtain ⟨s, rfl, -, hs⟩ := DataW.trod_string Try.underlying9 h
  obtain ⟨l, rfl⟩ := str_of s
  exact ⟨l, rfl, by rw [str_size] at hs; exact hs⟩

structure It where
  kind : Int
  n : Int
  b : Bool
  t : List UInt8
  ns : Value
  zs : List Int
  ts : Value
  ss : List (List UInt8)
def itV (x : It) : List Value := [.int .i64 x.kind, .int .i64 x.n, .bool x.b, .string ⟨x.t.toArray⟩, x.ns, x.ts]
structure ItOK (w : World) (x : It) : Prop where
  t : x.t.length ≤ maxLen
  zl : x.zs.length ≤ maxLen
  sl : x.ss.length ≤ maxLen
  ss : ∀ s ∈ x.ss, s.length ≤ maxLen
  n : Fits x.n
  zs : ∀ z ∈ x.zs, Fits z
  rz : Rd w x.ns x.zs.length 1 (intsV x.zs)
  rs : Rd w x.ts x.ss.length 1 (strsV x.ss)

theorem cells_item : Try.prog.cellsOf 81 = 6 := by kernel_rfl
theorem el_item {H : Type} {enc : TypeId × Value → H} {W : World} {cs : List Value} {n : Nat} {x : DataW H × List MemPlace} (hl : cs.length = 6) (h : DataW.trod enc Try.prog W 0 (fun _ => true) true n 81 cs = some x) :
    ∃ y : It, cs = itV y ∧ ItOK W y := by
  obtain ⟨c0, c1, c2, c3, c4, c5, rfl⟩ := len6 hl
  have F := fun j f hj c hc => trod_fld Try.underlying81 (by kernel_rfl) h j f hj c hc
  obtain ⟨n0, y0, h0⟩ := F 0 _ rfl _ rfl
  obtain ⟨n1, y1, h1⟩ := F 1 _ rfl _ rfl
  obtain ⟨n2, y2, h2⟩ := F 2 _ rfl _ rfl
  obtain ⟨n3, y3, h3⟩ := F 3 _ rfl _ rfl
  obtain ⟨n4, y4, h4⟩ := F 4 _ rfl _ rfl
  obtain ⟨n5, y5, h5⟩ := F 5 _ rfl _ rfl
  obtain ⟨k, e0, -⟩ := el_int h0
  obtain ⟨m, e1, hm⟩ := el_int h1
  obtain ⟨b, e2, -⟩ := DataW.trod_bool Try.underlying4 h2
  obtain ⟨t, e3, ht⟩ := el_string h3
  obtain ⟨zs, rz, hz, gz⟩ := open_cell_list Try.underlying53 cells_int h4 (fun _ _ _ _ h => el_int h)
  obtain ⟨ss, rs, hs, gs⟩ := open_cell_list Try.underlying76 cells_string h5 (fun _ _ _ _ h => el_string h)
  simp only [List.cons.injEq, and_true] at e0 e1 e2 e3
  subst e0 e1 e2 e3
  exact ⟨⟨k, m, b, t, c4, zs, c5, ss⟩, rfl, ⟨ht, hz, hs, gs, hm, gz, rz, rs⟩⟩
theorem open_items {H : Type} {enc : TypeId × Value → H} {W : World} {v : Value} {d : DataW H} {ps : List MemPlace} (h : DataW.Trod enc Try.prog W 0 (fun _ => true) true 87 v d ps) (hv : ∃ a l c, v = .slice a l c) :
    ∃ xs : List It, RdL W v 6 itV xs ∧ xs.length ≤ maxLen ∧ ∀ y ∈ xs, ItOK W y :=
  open_list Try.underlying87 cells_item (by omega) h hv (fun _ _ _ hl h => el_item hl h)
theorem open_item {H : Type} {enc : TypeId × Value → H} {W : World} {v : Value} {d : DataW H} {ps : List MemPlace} (h : DataW.Trod enc Try.prog W 0 (fun _ => true) true 81 v d ps) {r : Reach} {b0 : Nat} (hv : Value.okWide Try.prog W r b0 81 v) :
    ∃ y : It, v = .agg (itV y).toArray ∧ ItOK W y := by
  obtain ⟨cs, rfl, hsz⟩ := okWide_struct Try.underlying81 hv
  obtain ⟨fuel, hf⟩ := h
  obtain ⟨y, hy, ho⟩ := el_item (cs := cs.toList) (by rw [Array.length_toList, hsz]; exact cells_item) hf
  exact ⟨y, by rw [← hy], ho⟩

theorem ItOK.frm {w w' : World} {x : It} {S : Nat → Prop} (h : ItOK w x) (hf : Frm S w w') (h1 : ∀ k, x.ns.ownBlock = some k → ¬ S k) (h2 : ∀ k, x.ts.ownBlock = some k → ¬ S k) : ItOK w' x :=
  ⟨h.t, h.zl, h.sl, h.ss, h.n, h.zs, h.rz.frm hf h1, h.rs.frm hf h2⟩
theorem ItOK.no {w w' : World} {x : It} (h : ItOK w x) (hf : Frm No w w') : ItOK w' x := h.frm hf (fun _ _ h => h) (fun _ _ h => h)

/-- The kind of an item, by the remainder. -/
def knd (x : It) : Int := (wrap64 (x.kind.tmod 5 + 5)).tmod 5
theorem knd_in (x : It) : knd x = 0 ∨ knd x = 1 ∨ knd x = 2 ∨ knd x = 3 ∨ knd x = 4 := by
  unfold knd
  have h1 := Int.lt_tmod_of_pos x.kind (b := 5) (by omega)
  have h2 := Int.tmod_lt_of_pos x.kind (b := 5) (by omega)
  rw [IntWalk.wrap64_in _ (by omega), Int.tmod_eq_emod_of_nonneg (by omega)]
  omega

theorem kind_any (x : It) (w : World) : Calls Try.prog 46 #[.agg (itV x).toArray] w fun e w' => e = .returned (.int .i64 (knd x)) ∧ Frm No w w' := by
  obtain ⟨k, n, b, t, ns, zs, ts, ss⟩ := x
  unfold itV
  go_enter Try.func46, Try.ntmps46
  go_wp2_with fail
  go_ret
  exact ⟨rfl, (Frm.refl _ _).alloc _⟩
end Go.Proofs.Ytlhcjoaeipgbeaa
