/- Two equal frames are equal. -/
import Derived.Test.YthbacebkidggdaaNetTurn
import Derived.Laws.StructEq
namespace Go.Proofs.Ythbacebkidggdaa
open Go.RowKit
theorem fr_eq_in (T : TypeId) (hT : Try.prog.underlying T = some (.struct (Try.prog.fieldsOf T))) (hs : Try.prog.stoodInHeld T = false) (hf : (Try.prog.fieldsOf T).toList = (Try.prog.fieldsOf 30).toList) (a b : Int) (c : List UInt8) (d : Bool) (w : World) :
    (Op.equalIn 10000 T (.agg #[.int .i64 a, .int .i64 b, .string ⟨c.toArray⟩, .bool d]) (.agg #[.int .i64 a, .int .i64 b, .string ⟨c.toArray⟩, .bool d])).run Try.prog w = .ok true w := by
  have pe : ∀ (x y : Int) w, (Op.equalIn 9999 3 (.int .i64 x) (.int .i64 y)).run Try.prog w = .ok (x == y) w := fun x y w => run_equalIn_int w 9998 3 .i64 .i64 x y Try.underlying3
  have ps : ∀ (x y : ByteArray) w, (Op.equalIn 9999 9 (.string x) (.string y)).run Try.prog w = .ok (x.toList == y.toList) w := fun x y w => run_equalIn_string w 9998 9 x y Try.underlying9
  have pb : ∀ (x y : Bool) w, (Op.equalIn 9999 4 (.bool x) (.bool y)).run Try.prog w = .ok (x == y) w := fun x y w => run_equalIn_bool' w 9998 4 x y Try.underlying4
  rw [run_equalIn_agg w 9999 T _ _ hT hs, hf]
  have px0 : ∀ w, (part 3 #[.int .i64 a, .int .i64 b, .string ⟨c.toArray⟩, .bool d] 0).run Try.prog w = .ok (.int .i64 a) w := fun w => by kernel_rfl
  have px1 : ∀ w, (part 3 #[.int .i64 a, .int .i64 b, .string ⟨c.toArray⟩, .bool d] 1).run Try.prog w = .ok (.int .i64 b) w := fun w => by kernel_rfl
  have px2 : ∀ w, (part 9 #[.int .i64 a, .int .i64 b, .string ⟨c.toArray⟩, .bool d] 2).run Try.prog w = .ok (.string ⟨c.toArray⟩) w := fun w => by kernel_rfl
  have px3 : ∀ w, (part 4 #[.int .i64 a, .int .i64 b, .string ⟨c.toArray⟩, .bool d] 3).run Try.prog w = .ok (.bool d) w := fun w => by kernel_rfl
  have h : (Try.prog.fieldsOf 30).toList.map (fun f => (f.type, f.offset, f.name == "_")) = [(3, 0, false), (3, 1, false), (9, 2, false), (4, 3, false)] := by kernel_rfl
  clear hf hT hs
  generalize (Try.prog.fieldsOf 30).toList = F at h ⊢
  have hl : F.length = 4 := by simpa using congrArg List.length h
  obtain ⟨f0, F, rfl⟩ := List.exists_cons_of_length_pos (l := F) (by omega)
  obtain ⟨f1, F, rfl⟩ := List.exists_cons_of_length_pos (l := F) (by simp at hl; omega)
  obtain ⟨f2, F, rfl⟩ := List.exists_cons_of_length_pos (l := F) (by simp at hl; omega)
  obtain ⟨f3, F, rfl⟩ := List.exists_cons_of_length_pos (l := F) (by simp at hl; omega)
  obtain rfl : F = [] := by simpa using hl
  simp only [List.map_cons, List.map_nil, List.cons.injEq, Prod.mk.injEq, and_true] at h
  obtain ⟨⟨t0, o0, n0⟩, ⟨t1, o1, n1⟩, ⟨t2, o2, n2⟩, t3, o3, n3⟩ := h
  simp [Op.eqFields, t0, t1, t2, t3, o0, o1, o2, o3, px0, px1, px2, px3, pe, ps, pb]
theorem frr_neq (a b : Int) (c : List UInt8) (d : Bool) (w : World) :
    (binOp .neq 30 (.agg #[.int .i64 a, .int .i64 b, .string ⟨c.toArray⟩, .bool d]) (.agg #[.int .i64 a, .int .i64 b, .string ⟨c.toArray⟩, .bool d])).run Try.prog w = .ok (.bool false) w := by
  rw [run_neq_struct, fr_eq_in 30 (by kernel_rfl) (by kernel_rfl) rfl]
  rfl
theorem frn_neq (a b : Int) (c : List UInt8) (d : Bool) (w : World) :
    (binOp .neq 35 (.agg #[.int .i64 a, .int .i64 b, .string ⟨c.toArray⟩, .bool d]) (.agg #[.int .i64 a, .int .i64 b, .string ⟨c.toArray⟩, .bool d])).run Try.prog w = .ok (.bool false) w := by
  rw [run_neq_struct, fr_eq_in 35 (by kernel_rfl) (by kernel_rfl) (by kernel_rfl)]
  rfl
end Go.Proofs.Ythbacebkidggdaa
