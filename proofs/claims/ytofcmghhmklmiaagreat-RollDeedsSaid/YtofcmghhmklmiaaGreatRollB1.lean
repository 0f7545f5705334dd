/- Copies of lists of members, of classes, of names; one taken out. Printed by a program (rollb.py). -/
import Derived.Test.YtofcmghhmklmiaaGreatRollA
import Derived.Test.YtofcmghhmklmiaaGreatAppOwn
namespace Go.Proofs.YtofcmghhmklmiaaGreat
open Go.RowKit
open Roll

theorem info_mem : (Tryz.prog.info? 45).map (fun i => (i.zero, i.size, i.bytes)) = some (some (.agg #[.string ByteArray.empty, .int .i64 0, .int .i64 0]), 3, 32) := by kernel_rfl
set_option maxRecDepth 100000 in
set_option maxHeartbeats 1000000 in
theorem clone_mem (l : List (Mem)) (v : Value) (w : World) (h : RdL w v 3 memV l) (hl : l.length ≤ 100000) :
    Calls Tryz.prog 84 #[v] w fun e w' => ∃ v', e = .returned v' ∧ w'.ownsRow w.heap.size 45 3 v' l.length (rows memV l) ∧ Frm No w w' := by
  obtain ⟨i0, gi, gz0, gz1, gz2⟩ := info_parts info_mem
  have hF := hid (fun (w1 : World) (hf : Frm No w w1) => src_rdl memS (by omega) Tryz.underlying24 (h.frm (fun x _ => rfl) hf (fun _ _ h => h)))
  obtain ⟨ao, c, rfl⟩ := h.shape
  have hn : ∀ a n c' w, (binOp .eql 24 (.slice a n c') (.slice none 0 0)).run Tryz.prog w = .ok (.bool a.isNone) w := fun a n c' w => Lib.run_eql_slice_nil w 24 45 a n c' 0 0 Tryz.underlying24
  cases ao with
  | none =>
    have h0 : l = [] := by
      rcases h.cells with ⟨rfl, _⟩ | ⟨b, o, c', e, _⟩
      · rfl
      · cases e
    subst h0
    clear hF h
    go_enter Tryz.func84, Tryz.ntmps84
    go_wp2_with fail
    go_ret
    exact ⟨_, rfl, World.ownsRow_nil _ _ _ _, Frm.refl _ _⟩
  | some a =>
    clear h
    go_enter Tryz.func84, Tryz.ntmps84
    go_wp2_with (at_builtin; refine wpList_append_src _ rfl (.tmp 5) (.tmp 6) 24 24 rfl w.heap.size 45 i0 _ 3 32 Tryz.underlying24 gi gz0 gz1 gz2 rfl _ 0 [] rfl (own_empty 45 (Nat.le_refl _)) _ l.length (rows memV l) rfl (hF.out _ ((Frm.refl No w).alloc _)) (by unfold maxLen; omega) (by omega) (by simp) ?_; intro v1 w1 hown hf hv)
    rw [Nat.zero_add, List.nil_append] at hown
    go_ret
    refine ⟨_, rfl, hown, ((Frm.refl No w).alloc _).trans hf (fun _ _ h => h) (fun i hi e => ?_)⟩
    have e : some w.heap.size = some i := e
    simp only [Option.some.injEq] at e
    omega
theorem info_cls : (Tryz.prog.info? 53).map (fun i => (i.zero, i.size, i.bytes)) = some (some (.agg #[.string ByteArray.empty, .string ByteArray.empty, .slice none 0 0]), 3, 56) := by kernel_rfl
set_option maxRecDepth 100000 in
set_option maxHeartbeats 1000000 in
theorem clone_cls (l : List (CV)) (v : Value) (w : World) (h : RdL w v 3 clsV l) (hl : l.length ≤ 100000) :
    Calls Tryz.prog 85 #[v] w fun e w' => ∃ v', e = .returned v' ∧ w'.ownsRow w.heap.size 53 3 v' l.length (rows clsV l) ∧ Frm No w w' := by
  obtain ⟨i0, gi, gz0, gz1, gz2⟩ := info_parts info_cls
  have hF := hid (fun (w1 : World) (hf : Frm No w w1) => src_rdl clsS (by omega) Tryz.underlying25 (h.frm (fun x _ => rfl) hf (fun _ _ h => h)))
  obtain ⟨ao, c, rfl⟩ := h.shape
  have hn : ∀ a n c' w, (binOp .eql 25 (.slice a n c') (.slice none 0 0)).run Tryz.prog w = .ok (.bool a.isNone) w := fun a n c' w => Lib.run_eql_slice_nil w 25 53 a n c' 0 0 Tryz.underlying25
  cases ao with
  | none =>
    have h0 : l = [] := by
      rcases h.cells with ⟨rfl, _⟩ | ⟨b, o, c', e, _⟩
      · rfl
      · cases e
    subst h0
    clear hF h
    go_enter Tryz.func85, Tryz.ntmps85
    go_wp2_with fail
    go_ret
    exact ⟨_, rfl, World.ownsRow_nil _ _ _ _, Frm.refl _ _⟩
  | some a =>
    clear h
    go_enter Tryz.func85, Tryz.ntmps85
    go_wp2_with (at_builtin; refine wpList_append_src _ rfl (.tmp 5) (.tmp 6) 25 25 rfl w.heap.size 53 i0 _ 3 56 Tryz.underlying25 gi gz0 gz1 gz2 rfl _ 0 [] rfl (own_empty 53 (Nat.le_refl _)) _ l.length (rows clsV l) rfl (hF.out _ ((Frm.refl No w).alloc _)) (by unfold maxLen; omega) (by omega) (by simp) ?_; intro v1 w1 hown hf hv)
    rw [Nat.zero_add, List.nil_append] at hown
    go_ret
    refine ⟨_, rfl, hown, ((Frm.refl No w).alloc _).trans hf (fun _ _ h => h) (fun i hi e => ?_)⟩
    have e : some w.heap.size = some i := e
    simp only [Option.some.injEq] at e
    omega
theorem info_str : (Tryz.prog.info? 9).map (fun i => (i.zero, i.size, i.bytes)) = some (some (.string ByteArray.empty), 1, 16) := by kernel_rfl
set_option maxRecDepth 100000 in
set_option maxHeartbeats 1000000 in
theorem clone_str (l : List (B)) (v : Value) (w : World) (h : RdL w v 1 strV l) (hl : l.length ≤ 100000) :
    Calls Tryz.prog 50 #[v] w fun e w' => ∃ v', e = .returned v' ∧ w'.ownsRow w.heap.size 9 1 v' l.length (rows strV l) ∧ Frm No w w' := by
  obtain ⟨i0, gi, gz0, gz1, gz2⟩ := info_parts info_str
  have hF := hid (fun (w1 : World) (hf : Frm No w w1) => src_rdl strS (by omega) Tryz.underlying51 (h.frm (fun x _ => rfl) hf (fun _ _ h => h)))
  obtain ⟨ao, c, rfl⟩ := h.shape
  have hn : ∀ a n c' w, (binOp .eql 51 (.slice a n c') (.slice none 0 0)).run Tryz.prog w = .ok (.bool a.isNone) w := fun a n c' w => Lib.run_eql_slice_nil w 51 9 a n c' 0 0 Tryz.underlying51
  cases ao with
  | none =>
    have h0 : l = [] := by
      rcases h.cells with ⟨rfl, _⟩ | ⟨b, o, c', e, _⟩
      · rfl
      · cases e
    subst h0
    clear hF h
    go_enter Tryz.func50, Tryz.ntmps50
    go_wp2_with fail
    go_ret
    exact ⟨_, rfl, World.ownsRow_nil _ _ _ _, Frm.refl _ _⟩
  | some a =>
    clear h
    go_enter Tryz.func50, Tryz.ntmps50
    go_wp2_with (at_builtin; refine wpList_append_src _ rfl (.tmp 5) (.tmp 6) 51 51 rfl w.heap.size 9 i0 _ 1 16 Tryz.underlying51 gi gz0 gz1 gz2 rfl _ 0 [] rfl (own_empty 9 (Nat.le_refl _)) _ l.length (rows strV l) rfl (hF.out _ ((Frm.refl No w).alloc _)) (by unfold maxLen; omega) (by omega) (by simp) ?_; intro v1 w1 hown hf hv)
    rw [Nat.zero_add, List.nil_append] at hown
    go_ret
    refine ⟨_, rfl, hown, ((Frm.refl No w).alloc _).trans hf (fun _ _ h => h) (fun i hi e => ?_)⟩
    have e : some w.heap.size = some i := e
    simp only [Option.some.injEq] at e
    omega
end Go.Proofs.YtofcmghhmklmiaaGreat
