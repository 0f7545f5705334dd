/- Of a frame that is none no message is read. -/
import Derived.Test.YtlnmefpndgmenaaDoorMsgG9
namespace Go.Proofs.YtlnmefpndgmenaaDoor
open Go.RowKit
open Msg

theorem zero_one : (#[.int .i64 0, .int .i64 0, .int .i64 0, .slice none 0 0, .int .i64 0, .int .i64 0, .int .i64 0, .int .i64 0, .int .i64 0, .int .i64 0, .int .i64 0, .string ⟨#[]⟩, .bool false, .int .i64 0, .string ⟨#[]⟩, .slice none 0 0] : Array Value).all (·.oneCell') = true := by simp [Value.oneCell']
set_option maxRecDepth 100000 in
set_option maxHeartbeats 4000000 in
theorem mget_bad (s : List UInt8) (r : Int) (w : World) (hA : amt r = true) (hb : (Frl.open_ s).2 ≠ 0) (hl : s.length ≤ 140737488355328) (hT : Tab w) :
    Calls Tryd.prog 14 #[.string ⟨s.toArray⟩, .int .i64 r] w fun e w' => ∃ v er, e = .returned (.tuple #[v, .int .i64 er]) ∧ er ≠ 0 ∧ Frm No w w' := by
  have HAm := hid (amount_any r)
  rw [hA] at HAm
  have HO := hid (fun w1 (hT : Tab w1) => open_any s w1 hT hl)
  unfold OpenP at HO
  generalize (Frl.open_ s).1 = b at *
  generalize (Frl.open_ s).2 = er at *
  have HT := hid hT
  have hne : (er == 0) = false := by simpa using hb
  have HB := hid hb
  clear hT hb
  have bU := BC.new w [.int .i64 0, .int .i64 0, .int .i64 0, .slice none 0 0, .int .i64 0, .int .i64 0, .int .i64 0, .int .i64 0, .int .i64 0, .int .i64 0, .int .i64 0, .string ⟨#[]⟩, .bool false, .int .i64 0, .string ⟨#[]⟩, .slice none 0 0] 31
  go_enter Tryd.func14, Tryd.ntmps14
  go_wp2_with (first | (go_at_call 30; refine (HAm.out _).mono ?_; rintro e1 w1 ⟨rfl, rfl⟩) | (go_at_call 40; refine (HO.out _ (HT.out.no ((Frm.refl No w).alloc _))).mono ?_; rintro e2 w2 ⟨rfl, hf2⟩; have bU2 := hid (bU.frm (by simp) hf2 (fun h => h)); have HTH := hid (there_bc bU2.out (n := 16) (Nat.le_refl _))) | (refine wpList_store_mid rfl 31 (.tmp 4) (.tmp 24) rfl w.heap.size 0 #[.int .i64 0, .int .i64 0, .int .i64 0, .slice none 0 0, .int .i64 0, .int .i64 0, .int .i64 0, .int .i64 0, .int .i64 0, .int .i64 0, .int .i64 0, .string ⟨#[]⟩, .bool false, .int .i64 0, .string ⟨#[]⟩, .slice none 0 0] rfl rfl HTH.out (by kernel_rfl) zero_one ?_; obtain ⟨w9, e9, hb9, hf9⟩ : ∃ w9, w2.setCells w.heap.size 0 (#[.int .i64 0, .int .i64 0, .int .i64 0, .slice none 0 0, .int .i64 0, .int .i64 0, .int .i64 0, .int .i64 0, .int .i64 0, .int .i64 0, .int .i64 0, .string ⟨#[]⟩, .bool false, .int .i64 0, .string ⟨#[]⟩, .slice none 0 0] : Array Value).toList = w9 ∧ BC w9 w.heap.size [.int .i64 0, .int .i64 0, .int .i64 0, .slice none 0 0, .int .i64 0, .int .i64 0, .int .i64 0, .int .i64 0, .int .i64 0, .int .i64 0, .int .i64 0, .string ⟨#[]⟩, .bool false, .int .i64 0, .string ⟨#[]⟩, .slice none 0 0] ∧ Frm (One w.heap.size) w2 w9 := ⟨_, rfl, setCells_bc bU2.out rfl, setCells_frm w.heap.size _ 0 w2⟩; rw [e9]; clear e9))
  have z := hb9.cell
  refine bodyPost_ret (v := .tuple #[.agg #[.int .i64 0, .int .i64 0, .int .i64 0, .slice none 0 0, .int .i64 0, .int .i64 0, .int .i64 0, .int .i64 0, .int .i64 0, .int .i64 0, .int .i64 0, .string ⟨#[]⟩, .bool false, .int .i64 0, .string ⟨#[]⟩, .slice none 0 0], .int .i64 er]) (by simp [results, Tryd.results14, go_sem, z]) rfl ⟨_, _, rfl, HB.out, ?_⟩
  exact (((Frm.refl No w).alloc _).thenNo hf2).trans hf9 (fun _ _ h => h) (fun i hi e => by have e : i = w.heap.size := e; omega)
end Go.Proofs.YtlnmefpndgmenaaDoor
