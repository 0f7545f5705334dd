/- A mark in a frame: the walk of carries. A grammar in its form: the walk of writes. -/
import Derived.Test.YtebocnpbiiejmaaDoorMark2
import Derived.Test.YtebocnpbiiejmaaDoorFOpen
import Derived.Test.YtebocnpbiiejmaaDoorOutAll
import Derived.Test.YtebocnpbiiejmaaDoorSeal
import Derived.Test.YtebocnpbiiejmaaDoorTwW6
import Derived.Test.YtebocnpbiiejmaaDoorTwQ2
import Derived.KernelRfl
namespace Go.Proofs.YtebocnpbiiejmaaDoor
open Go.RowKit
theorem out_new {w : World} {b : Nat} (hb : w.heap.size = b) : OutAt (w.alloc (.cells #[.slice none 0 0, .bool false] 79)) b 0 (.slice none 0 0) [] false :=
  ⟨World.cell?_alloc_at _ _ _ _ hb.symm, World.cell?_alloc_at _ _ _ _ hb.symm, fun _ => World.frozen?_alloc_at _ _ _ _ hb.symm, World.ownsRow_nil _ _ _ _, by simp [Value.ownBlock]⟩
/-- a seven, put -/
theorem seven_put (w : World) (B : Nat) (hB : w.heap.size = B) :
    Calls Tryd.prog 27 #[.pointer (some ⟨B, 0, none⟩), .int .i64 7] (w.alloc (.cells #[.slice none 0 0, .bool false] 79)) fun e w' => e = .returned (.tuple #[]) ∧ Frm No w w' ∧
      Calls Tryd.prog 28 #[.pointer (some ⟨B, 0, none⟩)] w' fun e w'' => e = .returned (.tuple #[.string ⟨#[1, 7]⟩, .bool true]) ∧ w' = w'' := by
  have henc : Oct.enc 7 = [1, 7] := by decide
  have h := out_int B 0 (.slice none 0 0) [] false 7 _ (out_new hB) (by decide)
  refine h.mono ?_
  rintro e w5 ⟨rfl, v5, h5⟩
  have hal : Frm No w (w.alloc (.cells #[.slice none 0 0, .bool false] 79)) := (Frm.refl No w).alloc _
  refine ⟨rfl, hal.trans h5.frm (fun _ _ h => h) (fun k hk e => ?_), ?_⟩
  · rcases e with e | e
    · omega
    · cases e
  · have hb := out_bytes B 0 v5 _ _ w5 h5.at_
    rw [henc] at hb
    exact hb
set_option maxHeartbeats 1000000 in
theorem carries_any (w : World) (hT : Tab w) :
    Calls Tryd.prog 9 #[] w fun e w' => e = .returned (.bool true) ∧ Frm No w w' := by
  have HP := hid (fun W => mput_any 4609434218613702656 (by decide) W)
  have hlp : (Mk.put 4609434218613702656).length = 8 := by decide
  have hg : Mk.get (Mk.put 4609434218613702656) = (4609434218613702656, 0) := by decide
  have HG := hid (fun W => mget_any (Mk.put 4609434218613702656) W (by rw [hlp]; decide))
  rw [hg] at HG
  have HWO : Hid (∀ W, Frm No w W → Calls Tryd.prog 24 #[.string ⟨(Mk.put 4609434218613702656).toArray⟩] W fun e w' => e = .returned (.string ⟨(Frl.wrap (Mk.put 4609434218613702656)).toArray⟩) ∧ Frm No W w') := hid (fun (W : World) (hf : Frm No w W) => wrap_any _ W (hT.no hf) (by rw [hlp]; decide))
  have HO : Hid (∀ W, Frm No w W → Calls Tryd.prog 23 #[.string ⟨(Frl.wrap (Mk.put 4609434218613702656)).toArray⟩] W fun e w' => e = .returned (.tuple #[.string ⟨(Mk.put 4609434218613702656).toArray⟩, .int .i64 0]) ∧ Frm No W w') := hid (fun (W : World) (hf : Frm No w W) => by
    have h := open_any (Frl.wrap (Mk.put 4609434218613702656)) W (hT.no hf) (by rw [Frl.wrap_length (by rw [hlp]; decide), hlp]; have := Oct.enc_le (8 : Nat); omega)
    unfold OpenP at h
    rw [Frl.open_wrap (by rw [hlp]; decide)] at h
    exact h)
  have HSV := hid seven_put
  generalize Frl.wrap (Mk.put 4609434218613702656) = f at *
  generalize Mk.put 4609434218613702656 = m at *
  have hfl : (FloatKind.f64.format.order 4609434218613702656 4609434218613702656 == some .eq) = true := by rw [Mk.order_self]; decide
  clear hT hg hlp
  go_enter Tryd.func9, Tryd.ntmps9
  go_wp2_with fail
  refine (HP.out _).mono ?_
  rintro e w1 ⟨rfl, hF1⟩
  go_wp2_with fail
  refine (HWO.out _ hF1).mono ?_
  rintro e w2 ⟨rfl, hF2⟩
  have hF12 := hF1.thenNo hF2
  go_wp2_with fail
  refine (HO.out _ hF12).mono ?_
  rintro e w3 ⟨rfl, hF3⟩
  have hF13 := hF12.thenNo hF3
  go_wp2_with fail
  refine (HG.out _).mono ?_
  rintro e w4 ⟨rfl, rfl⟩
  obtain ⟨B, hB⟩ : ∃ B, w3.heap.size = B := ⟨_, rfl⟩
  go_wp2_with fail
  refine (HSV.out w3 B hB).mono ?_
  rintro e w5 ⟨rfl, hF5, hC⟩
  have HC := hid hC
  have HF15 := hid (hF13.thenNo hF5)
  clear hC
  go_wp2_with fail
  refine HC.out.mono ?_
  rintro e w6 ⟨rfl, rfl⟩
  go_wp2_with fail
  go_ret
  exact ⟨rfl, HF15.out⟩
end Go.Proofs.YtebocnpbiiejmaaDoor

namespace Go.Proofs.YtebocnpbiiejmaaDoor
open Go.RowKit
/-- two values that were put into variables of their own -/
theorem two_new {w : World} {F : Nat} (hF : w.heap.size = F) (a b : Array Value) (S T : TypeId) :
    Frm No w ((w.alloc (.cells a S)).alloc (.cells b T)) ∧ (∀ j, ((w.alloc (.cells a S)).alloc (.cells b T)).cell? ⟨F, j, none⟩ = a[j]?) ∧ (∀ j, ((w.alloc (.cells a S)).alloc (.cells b T)).cell? ⟨F + 1, j, none⟩ = b[j]?) ∧ ((w.alloc (.cells a S)).alloc (.cells b T)).heap.size = F + 2 :=
  ⟨((Frm.refl No w).alloc _).alloc _, fun j => (((Frm.refl No _).alloc _).cell (p := ⟨F, j, none⟩) (by rw [World.size_alloc]; show F < _; omega) (fun h => h)).trans (World.cell?_alloc_at _ _ _ _ hF.symm), fun _ => World.cell?_alloc_at _ _ _ _ (by rw [World.size_alloc, hF]), by rw [World.size_alloc, World.size_alloc, hF]⟩
def gm0 : Gr.Gm := ([97], [([97], .mk 6 [] [.mk 2 [120] []])])
theorem gm0_parse : Gr.parse [97, 32, 58, 32, 40, 32, 39, 120, 39, 32, 41, 32, 42, 32, 59] = some gm0 := by kernel_rfl
theorem gm0_text : Gr.text gm0 = [97, 58, 32, 39, 120, 39, 42, 59, 10] := by kernel_rfl
theorem gm0_ok : ∀ a ∈ gm0.2, Gr.goodName a.1 = true ∧ Gr.proper a.2 = true := by
  intro a ha
  have ha : a ∈ [(([97], Gr.Nd.mk 6 [] [.mk 2 [120] []]) : List UInt8 × Gr.Nd)] := ha
  rw [List.mem_singleton] at ha
  subst ha
  exact ⟨by kernel_rfl, by kernel_rfl⟩
set_option maxHeartbeats 1000000 in
theorem writes_any (w : World) (hT : Tab w) :
    Calls Tryd.prog 4 #[] w fun e w' => e = .returned (.bool true) ∧ Frm No w w' := by
  have HP := hid (fun W => parse_any [97, 32, 58, 32, 40, 32, 39, 120, 39, 32, 41, 32, 42, 32, 59] W)
  rw [gm0_parse] at HP
  have HX : Hid (∀ (W : World) (B : Nat) (v : Value), GmR W B gm0 v → Calls Tryd.prog 6 #[v] W fun e w' => e = .returned (.tuple #[.string ⟨#[97, 58, 32, 39, 120, 39, 42, 59, 10]⟩, .int .i64 0]) ∧ Frm No W w') := hid (fun W B v hg => by
    have h := text_any gm0 B v W hg (by kernel_rfl) (by unfold gm0; simp) gm0_ok (by rw [gm0_text]; decide)
    rw [gm0_text] at h
    exact h)
  have HC := hid (fun (W : World) (hf : Frm No w W) => carries_any W (hT.no hf))
  clear hT
  go_enter Tryd.func4, Tryd.ntmps4
  go_wp2_with fail
  refine (HP.out w).mono ?_
  rintro e w1 ⟨hF1, v, rfl, hG⟩
  have HG := hid hG
  obtain ⟨rs, ao, c, rfl, -, -⟩ := hG
  have hgm : gm0.1 = [97] := rfl
  rw [hgm] at HG ⊢
  have HF1 := hid hF1
  clear hF1 hgm
  obtain ⟨F, hF⟩ : ∃ F, w1.heap.size = F := ⟨_, rfl⟩
  have h2 := two_new hF #[.string ⟨#[97]⟩, .slice ao rs.length c] #[.int .i64 0, .int .i64 0, .int .i64 0] 25 28
  go_upto_region 2 with fail
  try rw [hF]
  generalize (w1.alloc (.cells #[.string ⟨#[97]⟩, .slice ao rs.length c] 25)).alloc (.cells #[.int .i64 0, .int .i64 0, .int .i64 0] 28) = W2 at *
  obtain ⟨hF2, cF, cG, hs2⟩ := h2
  have a0 := cF 0
  have a1 := cF 1
  have HG2 := hid (HX.out W2 _ _ (HG.out.frm hF2 (fun _ _ _ h => h)))
  have HF2 := hid (HF1.out.thenNo hF2)
  clear hF2 hF cF
  go_wp2_with fail
  refine HG2.out.mono ?_
  rintro e w3 ⟨rfl, hF3⟩
  have g2 := (hF3.cell (p := ⟨F + 1, 2, none⟩) (by show F + 1 < _; omega) (fun h => h)).trans (cG 2)
  have HF3 := hid (HF2.out.thenNo hF3)
  clear cG a0 a1
  go_wp2_with fail
  refine (HC.out w3 HF3.out).mono ?_
  rintro e w4 ⟨rfl, hF4⟩
  have k2 := (hF4.cell (World.block_lt_of_cell? w3 _ g2) (fun h => h)).trans g2
  have HF4 := hid (HF3.out.thenNo hF4)
  clear hF4 hF3 g2
  go_wp2_with fail
  go_ret
  exact ⟨rfl, HF4.out⟩
end Go.Proofs.YtebocnpbiiejmaaDoor
