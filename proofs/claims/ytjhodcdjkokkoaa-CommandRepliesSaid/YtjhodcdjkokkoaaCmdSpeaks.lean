/- The walks of the command laws' speaks, texts and same. -/
import Derived.Test.YtjhodcdjkokkoaaCmdRPut
import Derived.Test.YtjhodcdjkokkoaaCmdRGet
import Derived.Test.YtjhodcdjkokkoaaCmdGet
import Derived.Laws.StructEq
namespace Go.Proofs.Ytjhodcdjkokkoaa
open Go.RowKit

set_option maxRecDepth 100000 in
set_option maxHeartbeats 400000 in
theorem texts_any (v1 v2 : Value) (xs ys : List (List UInt8)) (w : World) (h1 : Rd w v1 xs.length 1 (strsV xs)) (h2 : Rd w v2 ys.length 1 (strsV ys)) (hl : xs.length ≤ 140737488355328) :
    Calls Try.prog 42 #[v1, v2] w fun e w' => e = .returned (.bool (decide (xs = ys))) ∧ Frm No w w' := by
  obtain ⟨a1, c1, rfl⟩ := h1.shape
  obtain ⟨a2, c2, rfl⟩ := h2.shape
  obtain ⟨V, hV⟩ : ∃ V, decide (xs = ys) = V := ⟨_, rfl⟩
  rw [hV]
  have hV := hid hV
  by_cases hlen : xs.length = ys.length
  · have hz : ((xs.length : Int) == (ys.length : Int)) = true := by simp; omega
    go_enter Try.func42, Try.ntmps42
    go_wp2_with fail
    go_loopw [5] (fun i wr => ∃ k : Nat, k ≤ xs.length ∧ i = .int .i64 (k : Int) ∧ (∀ j (hj : j < xs.length), j < k → xs[j] = ys[j]) ∧ Frm No w wr) (fun i _ => xs.length - (intOf i).toNat)
    case atStart => exact ⟨0, by omega, rfl, fun j _ h => by omega, Frm.refl _ _⟩
    case round =>
      obtain ⟨k, hk, rfl, hall, hf⟩ := hrel
      by_cases hkl : k < xs.length
      · have hkb : k < ys.length := by omega
        obtain ⟨b, o, rfl, hc⟩ := (h1.frm hf (fun _ _ h => h)).at_ (by omega)
        obtain ⟨b', o', rfl, hc'⟩ := (h2.frm hf (fun _ _ h => h)).at_ (by omega)
        have k1 : wr.cell? ⟨b, o + k, none⟩ = some (.string ⟨xs[k].toArray⟩) := by rw [hc k (by omega)]; simp [strsV]
        have k2 : wr.cell? ⟨b', o' + k, none⟩ = some (.string ⟨ys[k].toArray⟩) := by rw [hc' k (by omega)]; simp [strsV]
        have kz : (k : Int) < (xs.length : Int) := by omega
        have kzb : (k : Int) < (ys.length : Int) := by omega
        clear hc hc'
        by_cases he : xs[k] = ys[k]
        · have hall' : Hid (∀ j (hj : j < xs.length), j < k + 1 → xs[j] = ys[j]) := by
            intro j hj hjk
            by_cases h : j < k
            · exact hall j hj h
            · obtain rfl : j = k := by omega
              exact he
          have he' : (xs[k] == ys[k]) = true := by simpa using he
          clear hall he
          generalize xs[k] = x at *
          generalize ys[k] = y at *
          go_wp2_with fail
          go_quiet (fail)
          go_wp2_with fail
          exact ⟨⟨k + 1, by omega, by go_num, hall'.out, hf.drewN _⟩, by simp [intOf]; omega⟩
        · obtain rfl : V = false := hV.out.symm.trans (decide_eq_false (fun e => he (by subst e; rfl)))
          have he' : (xs[k] == ys[k]) = false := by simpa using he
          clear hall he hV
          generalize xs[k] = x at *
          generalize ys[k] = y at *
          go_wp2_with fail
          go_quiet (fail)
          go_wp2_with fail
          go_ret
          exact ⟨rfl, hf.drewN _⟩
      · obtain rfl : V = true := hV.out.symm.trans (decide_eq_true (List.ext_getElem hlen (fun j hj _ => hall j hj (by omega))))
        have kz : ¬ (k : Int) < (xs.length : Int) := by omega
        clear hall hV
        go_wp2_with fail
        go_ret
        exact ⟨rfl, hf⟩
  · have hz : ((xs.length : Int) == (ys.length : Int)) = false := by simp; omega
    obtain rfl : V = false := hV.out.symm.trans (decide_eq_false (fun e => hlen (by rw [e])))
    clear hV
    go_enter Try.func42, Try.ntmps42
    go_wp2_with fail
    go_ret
    exact ⟨rfl, Frm.refl _ _⟩

theorem eql4 (a b c d a' b' c' d' : Int) (w : World) : (binOp .eql 23 (.agg #[.int .i64 a, .int .i64 b, .int .i64 c, .int .i64 d]) (.agg #[.int .i64 a', .int .i64 b', .int .i64 c', .int .i64 d'])).run Try.prog w =
    .ok (.bool (a == a' && (b == b' && (c == c' && d == d')))) w := by
  have hsz : ∀ w, (sizeOf 3).run Try.prog w = .ok 1 w := fun _ => by kernel_rfl
  have px0 : (part 3 #[.int .i64 a, .int .i64 b, .int .i64 c, .int .i64 d] (0 * 1)).run Try.prog w = .ok (.int .i64 a) w := by kernel_rfl
  have px1 : (part 3 #[.int .i64 a, .int .i64 b, .int .i64 c, .int .i64 d] (1 * 1)).run Try.prog w = .ok (.int .i64 b) w := by kernel_rfl
  have px2 : (part 3 #[.int .i64 a, .int .i64 b, .int .i64 c, .int .i64 d] (2 * 1)).run Try.prog w = .ok (.int .i64 c) w := by kernel_rfl
  have px3 : (part 3 #[.int .i64 a, .int .i64 b, .int .i64 c, .int .i64 d] (3 * 1)).run Try.prog w = .ok (.int .i64 d) w := by kernel_rfl
  have py0 : (part 3 #[.int .i64 a', .int .i64 b', .int .i64 c', .int .i64 d'] (0 * 1)).run Try.prog w = .ok (.int .i64 a') w := by kernel_rfl
  have py1 : (part 3 #[.int .i64 a', .int .i64 b', .int .i64 c', .int .i64 d'] (1 * 1)).run Try.prog w = .ok (.int .i64 b') w := by kernel_rfl
  have py2 : (part 3 #[.int .i64 a', .int .i64 b', .int .i64 c', .int .i64 d'] (2 * 1)).run Try.prog w = .ok (.int .i64 c') w := by kernel_rfl
  have py3 : (part 3 #[.int .i64 a', .int .i64 b', .int .i64 c', .int .i64 d'] (3 * 1)).run Try.prog w = .ok (.int .i64 d') w := by kernel_rfl
  have pe : ∀ (x y : Int) w, (Op.equalIn 9999 3 (.int .i64 x) (.int .i64 y)).run Try.prog w = .ok (x == y) w := fun x y w => run_equalIn_int w 9998 3 .i64 .i64 x y Try.underlying3
  have hr : List.range' 0 4 1 = [0, 1, 2, 3] := rfl
  rw [run_eql_struct, Op.equalIn]
  simp only [Sem.run_bind, run_underlying Try.underlying23, Result.andThen_ok, hsz, Std.Legacy.Range.forIn_eq_forIn_range', Std.Legacy.Range.size, Nat.sub_zero, Nat.add_sub_cancel, Nat.div_one, hr, List.forIn_cons, px0, py0, pe]
  cases (a == a')
  · simp
  · simp only [Bool.not_true, Bool.false_eq_true, if_false, Sem.run_pure, Result.andThen_ok, Bool.true_and, px1, py1, pe, Sem.run_bind]
    cases (b == b')
    · simp
    · simp only [Bool.not_true, Bool.false_eq_true, if_false, Sem.run_pure, Result.andThen_ok, Bool.true_and, px2, py2, pe, Sem.run_bind]
      cases (c == c')
      · simp
      · simp only [Bool.not_true, Bool.false_eq_true, if_false, Sem.run_pure, Result.andThen_ok, Bool.true_and, px3, py3, pe, Sem.run_bind, List.forIn_nil]
        cases (d == d') <;> simp
theorem box2a {w w1 : World} {cs : Array Value} {T : TypeId} {o : Obj} (h : Frm No ((w.alloc (.cells cs T)).alloc o) w1) (j : Nat) : w1.cell? ⟨w.heap.size, j, none⟩ = cs[j]? :=
  (((Frm.refl No (w.alloc (.cells cs T))).alloc o).thenNo h).box j
theorem box2b {w w1 : World} {cs : Array Value} {T : TypeId} {o : Obj} (h : Frm No ((w.alloc o).alloc (.cells cs T)) w1) (j : Nat) : w1.cell? ⟨w.heap.size + 1, j, none⟩ = cs[j]? := by
  have := h.box j
  simpa only [World.size_alloc] using this
set_option maxRecDepth 100000 in
set_option maxHeartbeats 1000000 in
theorem same_refl (c : Cm) (v1 v2 : Value) (w : World) (hl : c.word.length ≤ 140737488355328) (h1 : Rd w v1 c.word.length 1 (strsV c.word)) (h2 : Rd w v2 c.word.length 1 (strsV c.word)) :
    Calls Try.prog 15 #[cmV c v1, cmV c v2] w fun e w' => e = .returned (.bool true) ∧ Frm No w w' := by
  have HT := hid (fun w1 (hf : Frm No w w1) => texts_any v1 v2 c.word c.word w1 (h1.frm hf (fun _ _ h => h)) (h2.frm hf (fun _ _ h => h)) hl)
  rw [decide_eq_true rfl] at HT
  obtain ⟨a1, c1, rfl⟩ := h1.shape
  obtain ⟨a2, c2, rfl⟩ := h2.shape
  unfold cmV
  obtain ⟨k, who, name, other, text, word, n0, n1, n2, n3⟩ := c
  dsimp only at *
  clear h1 h2
  have i4 : ∀ w, (binOp .eql 23 (.agg #[.int .i64 n0, .int .i64 n1, .int .i64 n2, .int .i64 n3]) (.agg #[.int .i64 n0, .int .i64 n1, .int .i64 n2, .int .i64 n3])).run Try.prog w = .ok (.bool true) w := by
    intro w
    rw [eql4]
    simp
  go_enter Try.func15, Try.ntmps15
  go_wp2_with (go_at_call 42; refine (HT.out _ (((Frm.refl No w).alloc _).alloc _)).mono ?_; rintro e1 w1 ⟨rfl, hf1⟩; have hf := (((Frm.refl No w).alloc _).alloc _).thenNo hf1; have qa := box2a hf1; have qb := box2b hf1)
  go_ret
  exact ⟨rfl, hf⟩

def cm0 : Cm := ⟨11, [97], [], [], [], [], 0, 0, 0, 0⟩
theorem cm0_good : Cmd.good cm0 = true := by decide
theorem cm0_put : Cmd.put cm0 = [1, 11, 1, 1, 97, 0, 0, 0, 0, 0, 0, 0, 0] := by decide
theorem cm0_get : Cmd.get [1, 11, 1, 1, 97, 0, 0, 0, 0, 0, 0, 0, 0] = (cm0, 0) := by
  have := Cmd.get_enc cm0 cm0_good
  have h2 : Cmd.enc cm0 = Cmd.put cm0 := by rw [Cmd.put, cm0_good]; rfl
  rw [h2, cm0_put] at this
  exact this
set_option maxRecDepth 100000 in
set_option maxHeartbeats 1000000 in
theorem cmdspeaks (w : World) : Calls Try.prog 8 #[] w fun e w' => e = .returned (.bool true) ∧ Frm No w w' := by
  have HP := hid (fun w => cput_any cm0 (.slice none 0 0) w (Cmd.small_of cm0_good) (Rd.nil w 1 none 0))
  have HG := hid (fun w => cget_any [1, 11, 1, 1, 97, 0, 0, 0, 0, 0, 0, 0, 0] w (by decide))
  rw [cm0_put] at HP
  rw [cm0_get] at HG
  unfold cmV cm0 at *
  dsimp only at *
  go_enter Try.func8, Try.ntmps8
  go_wp2_with (first | (go_at_call 10; refine (HP.out _).mono ?_; rintro e1 w1 ⟨rfl, hf1⟩) | (go_at_call 14; refine (HG.out _).mono ?_; rintro e2 w2 ⟨wv, rfl, hr, hf2⟩; obtain ⟨ao, cp, rfl⟩ := hr.shape))
  go_ret
  exact ⟨rfl, (hf1.thenNo hf2).alloc _⟩
end Go.Proofs.Ytjhodcdjkokkoaa
