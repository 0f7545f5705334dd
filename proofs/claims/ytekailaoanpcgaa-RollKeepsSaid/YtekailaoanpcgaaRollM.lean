/- The closures of Leave. -/
import Derived.Test.YtekailaoanpcgaaRollK
import Derived.Test.YtekailaoanpcgaaRollL
namespace Go.Proofs.Ytekailaoanpcgaa
open Go.RowKit
open Roll
set_option maxRecDepth 100000 in
set_option maxHeartbeats 4000000 in
theorem lc_any (x : CV) (t : B) (p1 : Nat) (w : World) (h1 : w.cell? ⟨p1, 0, none⟩ = some (.string ⟨t.toArray⟩)) :
    Calls Try.prog 74 #[.agg #[.string ⟨x.1.name.toArray⟩, .string ⟨x.1.teacher.toArray⟩, .slice x.2.1 x.1.students.length x.2.2], .pointer (some ⟨p1, 0, none⟩)] w fun e w' => e = .returned (.bool (x.1.teacher == t)) ∧ Frm No w w' := by
  have hb1 : p1 < w.heap.size := World.block_lt_of_cell? w _ h1
  obtain ⟨⟨nm, te, st⟩, sa, sc⟩ := x
  dsimp only
  generalize st.length = sl at *
  generalize hxx : (te == t) = r
  go_enter Try.func74, Try.ntmps74
  go_wp2_with fail
  go_ret
  exact ⟨rfl, (Frm.refl No w).alloc _⟩
theorem ls_any (x t : B) (p1 : Nat) (w : World) (h1 : w.cell? ⟨p1, 0, none⟩ = some (.string ⟨t.toArray⟩)) :
    Calls Try.prog 77 #[.string ⟨x.toArray⟩, .pointer (some ⟨p1, 0, none⟩)] w fun e w' => e = .returned (.bool (x == t)) ∧ w = w' := by
  have hb1 : p1 < w.heap.size := World.block_lt_of_cell? w _ h1
  generalize hxx : (x == t) = r
  go_enter Try.func77, Try.ntmps77
  go_wp2_with fail
  go_ret
  exact ⟨rfl, rfl⟩
set_option maxRecDepth 100000 in
set_option maxHeartbeats 4000000 in
/-- The first of the strings that is 't', or -1. -/
theorem ifs_any (l : List B) (t : B) (v : Value) (p1 : Nat) (w : World) (hv : RdL w v 1 strV l) (hl : l.length ≤ 1000000) (h1 : w.cell? ⟨p1, 0, none⟩ = some (.string ⟨t.toArray⟩)) :
    Calls Try.prog 98 #[v, .func (.func 77) #[] #[.pointer (some ⟨p1, 0, none⟩)]] w fun e w' => w = w' ∧
      ((∃ (k : Nat) (h : k < l.length), e = .returned (.int .i64 (k : Int)) ∧ (l.take k).any (fun x => x == t) = false ∧ l[k] = t) ∨ (e = .returned (.int .i64 (-1)) ∧ l.any (fun x => x == t) = false)) := by
  have HQ := hid (fun x => ls_any x t p1 w h1)
  clear h1
  obtain ⟨ao, c, rfl⟩ := hv.shape
  go_enter Try.func98, Try.ntmps98
  go_wp2_with fail
  go_loopw [5, 8] (fun _ i wr => ∃ k : Nat, k ≤ l.length ∧ i = .int .i64 (k : Int) ∧ (l.take k).any (fun x => x == t) = false ∧ w = wr)
    (fun _ i _ => l.length - (intOf i).toNat)
  case atStart => exact ⟨0, by omega, rfl, rfl, rfl⟩
  case round =>
    obtain ⟨k, hk, rfl, hb, rfl⟩ := hrel
    have HB := hid hb
    clear hb
    by_cases hkl : k < l.length
    · obtain ⟨b, o, rfl, hc⟩ := hv.at_ (by omega)
      have z := hc k hkl 0 (by omega)
      have HS : Hid ((l.take (k + 1)).any (fun x => x == t) = (l[k] == t)) := hid (by
        rw [List.take_succ_eq_append_getElem hkl, List.any_append, HB.out]
        simp)
      have HX := hid (HQ.out l[k])
      have HKX := hid (fun (h : (l[k] == t) = true) => (eq_of_beq h : l[k] = t))
      obtain ⟨x, hxk⟩ : ∃ x, l[k] = x := ⟨_, rfl⟩
      have HXK := hid hxk
      rw [hxk] at z HS HX HKX
      simp only [strV, List.getElem?_cons_zero, Nat.mul_one, Nat.add_zero] at z
      clear hc hv hxk HQ
      generalize hqe : (x == t) = qq at *
      cases qq
      · go_wp2_with (go_at_call 77; refine HX.out.mono ?_; rintro e w1 ⟨rfl, rfl⟩)
        exact ⟨⟨k + 1, by omega, by go_num, HS.out, trivial⟩, by simp [intOf]; omega⟩
      · go_wp2_with (go_at_call 77; refine HX.out.mono ?_; rintro e w1 ⟨rfl, rfl⟩)
        go_ret
        exact ⟨rfl, .inl ⟨k, hkl, rfl, HB.out, HXK.out.trans (HKX.out trivial)⟩⟩
    · obtain rfl : k = l.length := by omega
      rw [List.take_length] at HB
      have hpz : ¬ (l.length : Int) < (l.length : Int) := by omega
      go_wp2_with fail
      go_ret
      exact ⟨rfl, .inr ⟨rfl, by simpa using HB.out⟩⟩
end Go.Proofs.Ytekailaoanpcgaa
