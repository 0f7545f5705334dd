/- Of a frame that is none no message is read. The laws of messages: a nonce comes back. -/
import Derived.Test.YtaejcejfpcjifaaDoorMsgG9
import Derived.Test.YtaejcejfpcjifaaDoorMsgG10
namespace Go.Proofs.YtaejcejfpcjifaaDoor
open Go.RowKit
open Msg

theorem zero_one : (#[.int .i64 0, .int .i64 0, .int .i64 0, .slice none 0 0, .int .i64 0, .int .i64 0, .int .i64 0, .int .i64 0, .int .i64 0, .int .i64 0, .int .i64 0, .string ⟨#[]⟩, .bool false, .int .i64 0, .string ⟨#[]⟩, .slice none 0 0] : Array Value).all (·.oneCell') = true := by simp [Value.oneCell']
set_option maxRecDepth 100000 in
set_option maxHeartbeats 4000000 in
theorem mget_badz (s : List UInt8) (r : Int) (w : World) (hA : amt r = true) (hb : (Frl.open_ s).2 ≠ 0) (hl : s.length ≤ 140737488355328) (hT : Tab w) :
    Calls Tryd.prog 11 #[.string ⟨s.toArray⟩, .int .i64 r] w fun e w' => ∃ er, e = .returned (.tuple #[.agg #[.int .i64 0, .int .i64 0, .int .i64 0, .slice none 0 0, .int .i64 0, .int .i64 0, .int .i64 0, .int .i64 0, .int .i64 0, .int .i64 0, .int .i64 0, .string ⟨#[]⟩, .bool false, .int .i64 0, .string ⟨#[]⟩, .slice none 0 0], .int .i64 er]) ∧ er ≠ 0 ∧ Frm No w w' := by
  have HAm := hid (amount_any r)
  rw [hA] at HAm
  have HO := hid (fun w1 (hT : Tab w1) => open_any s w1 hT hl)
  unfold OpenP at HO
  generalize (Frl.open_ s).1 = b at *
  generalize (Frl.open_ s).2 = er at *
  have HT := hid hT
  have hne : (er == 0) = false := by simpa using hb
  have HB := hid hb
  clear hT hb
  have bU := BC.new w [.int .i64 0, .int .i64 0, .int .i64 0, .slice none 0 0, .int .i64 0, .int .i64 0, .int .i64 0, .int .i64 0, .int .i64 0, .int .i64 0, .int .i64 0, .string ⟨#[]⟩, .bool false, .int .i64 0, .string ⟨#[]⟩, .slice none 0 0] 31
  go_enter Tryd.func11, Tryd.ntmps11
  go_wp2_with (first | (go_at_call 23; refine (HAm.out _).mono ?_; rintro e1 w1 ⟨rfl, rfl⟩) | (go_at_call 33; refine (HO.out _ (HT.out.no ((Frm.refl No w).alloc _))).mono ?_; rintro e2 w2 ⟨rfl, hf2⟩; have bU2 := hid (bU.frm (by simp) hf2 (fun h => h)); have HTH := hid (there_bc bU2.out (n := 16) (Nat.le_refl _))) | (refine wpList_store_mid rfl 31 (.tmp 4) (.tmp 24) rfl w.heap.size 0 #[.int .i64 0, .int .i64 0, .int .i64 0, .slice none 0 0, .int .i64 0, .int .i64 0, .int .i64 0, .int .i64 0, .int .i64 0, .int .i64 0, .int .i64 0, .string ⟨#[]⟩, .bool false, .int .i64 0, .string ⟨#[]⟩, .slice none 0 0] rfl rfl HTH.out (by kernel_rfl) zero_one ?_; obtain ⟨w9, e9, hb9, hf9⟩ : ∃ w9, w2.setCells w.heap.size 0 (#[.int .i64 0, .int .i64 0, .int .i64 0, .slice none 0 0, .int .i64 0, .int .i64 0, .int .i64 0, .int .i64 0, .int .i64 0, .int .i64 0, .int .i64 0, .string ⟨#[]⟩, .bool false, .int .i64 0, .string ⟨#[]⟩, .slice none 0 0] : Array Value).toList = w9 ∧ BC w9 w.heap.size [.int .i64 0, .int .i64 0, .int .i64 0, .slice none 0 0, .int .i64 0, .int .i64 0, .int .i64 0, .int .i64 0, .int .i64 0, .int .i64 0, .int .i64 0, .string ⟨#[]⟩, .bool false, .int .i64 0, .string ⟨#[]⟩, .slice none 0 0] ∧ Frm (One w.heap.size) w2 w9 := ⟨_, rfl, setCells_bc bU2.out rfl, setCells_frm w.heap.size _ 0 w2⟩; rw [e9]; clear e9))
  have z := hb9.cell
  refine bodyPost_ret (v := .tuple #[.agg #[.int .i64 0, .int .i64 0, .int .i64 0, .slice none 0 0, .int .i64 0, .int .i64 0, .int .i64 0, .int .i64 0, .int .i64 0, .int .i64 0, .int .i64 0, .string ⟨#[]⟩, .bool false, .int .i64 0, .string ⟨#[]⟩, .slice none 0 0], .int .i64 er]) (by simp [results, Tryd.results11, go_sem, z]) rfl ⟨_, rfl, HB.out, ?_⟩
  exact (((Frm.refl No w).alloc _).thenNo hf2).trans hf9 (fun _ _ h => h) (fun i hi e => by have e : i = w.heap.size := e; omega)
theorem mget_bad (s : List UInt8) (r : Int) (w : World) (hA : amt r = true) (hb : (Frl.open_ s).2 ≠ 0) (hl : s.length ≤ 140737488355328) (hT : Tab w) :
    Calls Tryd.prog 11 #[.string ⟨s.toArray⟩, .int .i64 r] w fun e w' => ∃ v er, e = .returned (.tuple #[v, .int .i64 er]) ∧ er ≠ 0 ∧ Frm No w w' :=
  (mget_badz s r w hA hb hl hT).mono fun _ _ ⟨er, h⟩ => ⟨_, er, h⟩
end Go.Proofs.YtaejcejfpcjifaaDoor

namespace Go.Proofs.YtaejcejfpcjifaaDoor
open Go.RowKit
open Msg

namespace Msg
def spk : Ms := ⟨9, 2, 9, [0, 0, 0], 0, 0, 0, 0, 0, 0, 9, [], false, 0, [], []⟩
theorem spk_good : good spk 3 = true := by decide
theorem spk_len : (Frl.wrap (body spk)).length = 17 := by
  rw [Frl.wrap_length (body_len spk_good)]
  decide
theorem spk_put : Msg.put spk 3 = Frl.wrap (body spk) := by rw [Msg.put, spk_good, if_pos rfl]
end Msg
set_option maxRecDepth 100000 in
set_option maxHeartbeats 4000000 in
theorem msgspeaks (w : World) (hT : Tab w) : Calls Tryd.prog 4 #[] w fun e w' => e = .returned (.bool true) ∧ Frm No w w' := by
  have HT := hid hT
  have hrd : Rd (w.alloc (.cells #[.int .i64 0, .int .i64 0, .int .i64 0] 3)) (.slice (some ⟨w.heap.size, 0, none⟩) 3 3) 3 1 (intsV [0, 0, 0]) :=
    ⟨rfl, .inr ⟨_, _, _, rfl, fun j _ => by rw [World.cell?_alloc_at _ _ _ _ (by simp)]; simp [intsV]⟩⟩
  have HP := hid (mput_any spk (.slice (some ⟨w.heap.size, 0, none⟩) 3 3) (.slice none 0 0) 3 _ (good_sml spk_good) ⟨hrd, ⟨.inl ⟨rfl, _, _, rfl⟩⟩⟩ (hT.no ((Frm.refl No w).alloc _)))
  have HG := hid (fun w1 (hT : Tab w1) => mget_good spk 3 w1 spk_good hT)
  have hl := spk_len
  rw [spk_put] at HP
  generalize Frl.wrap (body spk) = F at *
  have hlz : (F.length : Int) = 17 := by omega
  clear hT hl hrd
  unfold msV msC spk at *
  dsimp only at *
  go_enter Tryd.func4, Tryd.ntmps4
  go_wp2_with (first | (go_at_call 8; refine HP.out.mono ?_; rintro e1 w1 ⟨rfl, hf1⟩; have hT1 := HT.out.no (((Frm.refl No w).alloc _).thenNo hf1)) | (go_at_call 11; refine (HG.out w1 hT1).mono ?_; rintro e2 w2 ⟨kv, ev, rfl, hms, hf2⟩; obtain ⟨ka, kc, rfl⟩ := hms.kr.shape; obtain ⟨ea, ec, rfl⟩ := hms.er.shape))
  go_ret
  exact ⟨rfl, ((((Frm.refl No w).alloc _).thenNo hf1).thenNo hf2).alloc _⟩
end Go.Proofs.YtaejcejfpcjifaaDoor
