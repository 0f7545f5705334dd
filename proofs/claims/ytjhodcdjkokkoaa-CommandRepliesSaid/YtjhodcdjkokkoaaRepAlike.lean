/- The walks of slices.Equal, slices.EqualFunc, and the laws' alike. -/
import Derived.Test.YtjhodcdjkokkoaaCmdSpeaks
import Derived.Test.YtjhodcdjkokkoaaStore7
import Derived.Test.YtjhodcdjkokkoaaMark2
namespace Go.Proofs.Ytjhodcdjkokkoaa
open Go.RowKit

set_option maxRecDepth 100000 in
set_option maxHeartbeats 400000 in
theorem seq_any (v1 v2 : Value) (xs ys : List (List UInt8)) (w : World) (h1 : Rd w v1 xs.length 1 (strsV xs)) (h2 : Rd w v2 ys.length 1 (strsV ys)) (hl : xs.length ≤ 140737488355328) :
    Calls Try.prog 51 #[v1, v2] w fun e w' => e = .returned (.bool (decide (xs = ys))) ∧ Frm No w w' := by
  obtain ⟨a1, c1, rfl⟩ := h1.shape
  obtain ⟨a2, c2, rfl⟩ := h2.shape
  obtain ⟨V, hV⟩ : ∃ V, decide (xs = ys) = V := ⟨_, rfl⟩
  rw [hV]
  have hV := hid hV
  by_cases hlen : xs.length = ys.length
  · have hz : ((xs.length : Int) == (ys.length : Int)) = true := by simp; omega
    go_enter Try.func51, Try.ntmps51
    go_wp2_with fail
    go_loopw [13] (fun i wr => ∃ k : Nat, k ≤ xs.length ∧ i = .int .i64 (k : Int) ∧ (∀ j (hj : j < xs.length), j < k → xs[j] = ys[j]) ∧ Frm No w wr) (fun i _ => xs.length - (intOf i).toNat)
    case atStart => exact ⟨0, by omega, rfl, fun j _ h => by omega, Frm.refl _ _⟩
    case round =>
      obtain ⟨k, hk, rfl, hall, hf⟩ := hrel
      by_cases hkl : k < xs.length
      · have hkb : k < ys.length := by omega
        obtain ⟨b, o, rfl, hc⟩ := (h1.frm hf (fun _ _ h => h)).at_ (by omega)
        obtain ⟨b', o', rfl, hc'⟩ := (h2.frm hf (fun _ _ h => h)).at_ (by omega)
        have k1 : wr.cell? ⟨b, o + k, none⟩ = some (.string ⟨xs[k].toArray⟩) := by rw [hc k (by omega)]; simp [strsV]
        have k2 : wr.cell? ⟨b', o' + k, none⟩ = some (.string ⟨ys[k].toArray⟩) := by rw [hc' k (by omega)]; simp [strsV]
        have kz : (k : Int) < (xs.length : Int) := by omega
        have kzb : (k : Int) < (ys.length : Int) := by omega
        clear hc hc'
        by_cases he : xs[k] = ys[k]
        · have hall' : Hid (∀ j (hj : j < xs.length), j < k + 1 → xs[j] = ys[j]) := by
            intro j hj hjk
            by_cases h : j < k
            · exact hall j hj h
            · obtain rfl : j = k := by omega
              exact he
          have he' : (xs[k] == ys[k]) = true := by simpa using he
          clear hall he
          generalize xs[k] = x at *
          generalize ys[k] = y at *
          go_wp2_with fail
          go_quiet (fail)
          go_wp2_with fail
          exact ⟨⟨k + 1, by omega, by go_num, hall'.out, hf.drewN _⟩, by simp [intOf]; omega⟩
        · obtain rfl : V = false := hV.out.symm.trans (decide_eq_false (fun e => he (by subst e; rfl)))
          have he' : (xs[k] == ys[k]) = false := by simpa using he
          clear hall he hV
          generalize xs[k] = x at *
          generalize ys[k] = y at *
          go_wp2_with fail
          go_quiet (fail)
          go_wp2_with fail
          go_ret
          exact ⟨rfl, hf.drewN _⟩
      · obtain rfl : V = true := hV.out.symm.trans (decide_eq_true (List.ext_getElem hlen (fun j hj _ => hall j hj (by omega))))
        have kz : ¬ (k : Int) < (xs.length : Int) := by omega
        clear hall hV
        go_wp2_with fail
        go_ret
        exact ⟨rfl, hf⟩
  · have hz : ((xs.length : Int) == (ys.length : Int)) = false := by simp; omega
    obtain rfl : V = false := hV.out.symm.trans (decide_eq_false (fun e => hlen (by rw [e])))
    clear hV
    go_enter Try.func51, Try.ntmps51
    go_wp2_with fail
    go_ret
    exact ⟨rfl, Frm.refl _ _⟩

set_option maxRecDepth 100000 in
theorem sclos_any (x y : Nat) (hx : x < 18446744073709551616) (hy : y < 18446744073709551616) (w : World) : Calls Try.prog 53 #[.float .f64 x, .float .f64 y] w fun e w' => e = .returned (.bool (decide (Mk.put x = Mk.put y))) ∧ Frm No w w' := by
  have H1 := hid (fun w => mput_any x hx w)
  have H2 := hid (fun w => mput_any y hy w)
  generalize Mk.put x = p at *
  generalize Mk.put y = q at *
  clear hx hy
  by_cases he : p = q
  · rw [decide_eq_true he]
    have he' : (p == q) = true := by simpa using he
    clear he
    go_enter Try.func53, Try.ntmps53
    go_wp2_with (first | (go_at_call 49; refine (H2.out w1).mono ?_; rintro e2 w2 ⟨rfl, hf2⟩) | (go_at_call 49; refine (H1.out w).mono ?_; rintro e1 w1 ⟨rfl, hf1⟩))
    go_ret
    exact ⟨rfl, hf1.thenNo hf2⟩
  · rw [decide_eq_false he]
    have he' : (p == q) = false := by simpa using he
    clear he
    go_enter Try.func53, Try.ntmps53
    go_wp2_with (first | (go_at_call 49; refine (H2.out w1).mono ?_; rintro e2 w2 ⟨rfl, hf2⟩) | (go_at_call 49; refine (H1.out w).mono ?_; rintro e1 w1 ⟨rfl, hf1⟩))
    go_ret
    exact ⟨rfl, hf1.thenNo hf2⟩

theorem puts_no {xs ys : List Nat} {k : Nat} (hk : k < xs.length) (hk2 : k < ys.length) (h : ¬ Mk.put xs[k] = Mk.put ys[k]) : ¬ xs.map Mk.put = ys.map Mk.put := by
  intro e
  have h1 : (xs.map Mk.put)[k]? = (ys.map Mk.put)[k]? := by rw [e]
  rw [List.getElem?_map, List.getElem?_map, List.getElem?_eq_getElem hk, List.getElem?_eq_getElem hk2] at h1
  exact h (Option.some.inj h1)
theorem puts_yes {xs ys : List Nat} (hl : xs.length = ys.length) (h : ∀ j (hj : j < xs.length) (hj2 : j < ys.length), Mk.put xs[j] = Mk.put ys[j]) : xs.map Mk.put = ys.map Mk.put :=
  List.ext_getElem (by simpa using hl) (fun j h1 h2 => by
    rw [List.getElem_map, List.getElem_map]
    exact h j (by simpa using h1) (by simpa using h2))
set_option maxRecDepth 100000 in
set_option maxHeartbeats 1000000 in
theorem eqf_any (v1 v2 : Value) (xs ys : List Nat) (w : World) (h1 : Rd w v1 xs.length 1 (fltV xs)) (h2 : Rd w v2 ys.length 1 (fltV ys)) (hl : xs.length ≤ 140737488355328) (hx : ∀ n ∈ xs, n < 18446744073709551616) (hy : ∀ n ∈ ys, n < 18446744073709551616) :
    Calls Try.prog 52 #[v1, v2, .func (.func 53) #[] #[]] w fun e w' => e = .returned (.bool (decide (xs.map Mk.put = ys.map Mk.put))) ∧ Frm No w w' := by
  obtain ⟨a1, c1, rfl⟩ := h1.shape
  obtain ⟨a2, c2, rfl⟩ := h2.shape
  obtain ⟨V, hV⟩ : ∃ V, decide (xs.map Mk.put = ys.map Mk.put) = V := ⟨_, rfl⟩
  rw [hV]
  have hV := hid hV
  by_cases hlen : xs.length = ys.length
  · have hz : ((xs.length : Int) == (ys.length : Int)) = true := by simp; omega
    have hz2 : ((xs.length : Int) != (ys.length : Int)) = false := by simp; omega
    have HL := hid hlen
    clear hlen
    go_enter Try.func52, Try.ntmps52
    go_wp2_with fail
    go_loopw [17] (fun i wr => ∃ k : Nat, k ≤ xs.length ∧ i = .int .i64 (k : Int) ∧ Hid (∀ j (hj : j < xs.length) (hj2 : j < ys.length), j < k → Mk.put xs[j] = Mk.put ys[j]) ∧ Frm No w wr) (fun i _ => xs.length - (intOf i).toNat)
    case atStart => exact ⟨0, by omega, rfl, hid (fun j _ _ h => by omega), Frm.refl _ _⟩
    case round =>
      obtain ⟨k, hk, rfl, hall, hf⟩ := hrel
      by_cases hkl : k < xs.length
      · have hkb : k < ys.length := by have := HL.out; omega
        obtain ⟨b, o, rfl, hc⟩ := (h1.frm hf (fun _ _ h => h)).at_ (by omega)
        obtain ⟨b', o', rfl, hc'⟩ := (h2.frm hf (fun _ _ h => h)).at_ (by omega)
        have k1 : wr.cell? ⟨b, o + k, none⟩ = some (.float .f64 xs[k]) := by rw [hc k (by omega)]; simp [fltV]
        have k2 : wr.cell? ⟨b', o' + k, none⟩ = some (.float .f64 ys[k]) := by rw [hc' k (by omega)]; simp [fltV]
        have kz : (k : Int) < (xs.length : Int) := by omega
        have kzb : (k : Int) < (ys.length : Int) := by omega
        have HC := hid (fun w => sclos_any xs[k] ys[k] (hx _ (List.getElem_mem hkl)) (hy _ (List.getElem_mem hkb)) w)
        have HNO := hid (puts_no hkl hkb)
        clear hc hc'
        by_cases he : Mk.put xs[k] = Mk.put ys[k]
        · have hall' : Hid (∀ j (hj : j < xs.length) (hj2 : j < ys.length), j < k + 1 → Mk.put xs[j] = Mk.put ys[j]) := by
            intro j hj hj2 hjk
            by_cases h : j < k
            · exact hall.out j hj hj2 h
            · obtain rfl : j = k := by omega
              exact he
          rw [decide_eq_true he] at HC
          clear hall he HNO
          generalize xs[k] = x at *
          generalize ys[k] = y at *
          go_wp2_with (go_at_call 53; refine (HC.out _).mono ?_; rintro q1 w1 ⟨rfl, hf1⟩)
          exact ⟨⟨k + 1, by omega, by go_num, hall', hf.thenNo hf1⟩, by simp [intOf]; omega⟩
        · obtain rfl : V = false := hV.out.symm.trans (decide_eq_false (HNO.out he))
          rw [decide_eq_false he] at HC
          clear hall he hV HNO
          generalize xs[k] = x at *
          generalize ys[k] = y at *
          go_wp2_with (go_at_call 53; refine (HC.out _).mono ?_; rintro q1 w1 ⟨rfl, hf1⟩)
          go_ret
          exact ⟨rfl, hf.thenNo hf1⟩
      · obtain rfl : V = true := hV.out.symm.trans (decide_eq_true (puts_yes HL.out (fun j hj hj2 => hall.out j hj hj2 (by omega))))
        have kz : ¬ (k : Int) < (xs.length : Int) := by omega
        clear hall hV
        go_wp2_with fail
        go_ret
        exact ⟨rfl, hf⟩
  · have hz : ((xs.length : Int) == (ys.length : Int)) = false := by simp; omega
    obtain rfl : V = false := hV.out.symm.trans (decide_eq_false (fun e => hlen (by have := congrArg List.length e; simpa using this)))
    clear hV
    go_enter Try.func52, Try.ntmps52
    go_wp2_with fail
    go_ret
    exact ⟨rfl, Frm.refl _ _⟩
set_option maxRecDepth 100000 in
set_option maxHeartbeats 4000000 in
theorem alike_any (a b : Rp) (v1 m1 v2 m2 : Value) (w : World) (h1 : Rd w v1 a.texts.length 1 (strsV a.texts)) (h2 : Rd w v2 b.texts.length 1 (strsV b.texts)) (g1 : Rd w m1 a.marks.length 1 (fltV a.marks)) (g2 : Rd w m2 b.marks.length 1 (fltV b.marks)) (hl : a.texts.length ≤ 140737488355328) (hl2 : a.marks.length ≤ 140737488355328) (hx : ∀ n ∈ a.marks, n < 18446744073709551616) (hy : ∀ n ∈ b.marks, n < 18446744073709551616) :
    Calls Try.prog 19 #[rpV a v1 m1, rpV b v2 m2] w fun e w' => e = .returned (.bool (Rep.same a b)) ∧ Frm No w w' := by
  obtain ⟨V, hV⟩ : ∃ V, Rep.same a b = V := ⟨_, rfl⟩
  rw [hV]
  have hV := hid hV
  have HT := hid (fun w1 (hf : Frm No w w1) => texts_any v1 v2 a.texts b.texts w1 (h1.frm hf (fun _ _ h => h)) (h2.frm hf (fun _ _ h => h)) hl)
  have HG1 := hid (fun w1 (hf : Frm No w w1) => g1.frm hf (fun _ _ h => h))
  have HG2 := hid (fun w1 (hf : Frm No w w1) => g2.frm hf (fun _ _ h => h))
  have HX := hid hx
  have HY := hid hy
  obtain ⟨a1, c1, rfl⟩ := h1.shape
  obtain ⟨a2, c2, rfl⟩ := h2.shape
  obtain ⟨a3, c3, rfl⟩ := g1.shape
  obtain ⟨a4, c4, rfl⟩ := g2.shape
  clear h1 h2 g1 g2 hx hy
  unfold rpV
  obtain ⟨k, line, col, count, text, texts, marks⟩ := a
  obtain ⟨k', line', col', count', text', texts', marks'⟩ := b
  dsimp only at *
  by_cases e_k : k = k'
  case neg =>
    have b1 : (k == k') = false := by simpa using e_k
    have b2 : (k != k') = true := by simpa using e_k
    obtain rfl : V = false := hV.out.symm.trans (by simp [Rep.same, e_k])
    clear hV HT HG1 HG2 HX HY e_k
    go_enter Try.func19, Try.ntmps19
    go_wp2_with fail
    go_ret
    exact ⟨rfl, ((Frm.refl No w).alloc _).alloc _⟩
  subst e_k
  by_cases e_line : line = line'
  case neg =>
    have b1 : (line == line') = false := by simpa using e_line
    have b2 : (line != line') = true := by simpa using e_line
    obtain rfl : V = false := hV.out.symm.trans (by simp [Rep.same, e_line])
    clear hV HT HG1 HG2 HX HY e_line
    go_enter Try.func19, Try.ntmps19
    go_wp2_with fail
    go_ret
    exact ⟨rfl, ((Frm.refl No w).alloc _).alloc _⟩
  subst e_line
  by_cases e_col : col = col'
  case neg =>
    have b1 : (col == col') = false := by simpa using e_col
    have b2 : (col != col') = true := by simpa using e_col
    obtain rfl : V = false := hV.out.symm.trans (by simp [Rep.same, e_col])
    clear hV HT HG1 HG2 HX HY e_col
    go_enter Try.func19, Try.ntmps19
    go_wp2_with fail
    go_ret
    exact ⟨rfl, ((Frm.refl No w).alloc _).alloc _⟩
  subst e_col
  by_cases e_count : count = count'
  case neg =>
    have b1 : (count == count') = false := by simpa using e_count
    have b2 : (count != count') = true := by simpa using e_count
    obtain rfl : V = false := hV.out.symm.trans (by simp [Rep.same, e_count])
    clear hV HT HG1 HG2 HX HY e_count
    go_enter Try.func19, Try.ntmps19
    go_wp2_with fail
    go_ret
    exact ⟨rfl, ((Frm.refl No w).alloc _).alloc _⟩
  subst e_count
  by_cases e_text : text = text'
  case neg =>
    have b1 : (text == text') = false := by simpa using e_text
    have b2 : (text != text') = true := by simpa using e_text
    obtain rfl : V = false := hV.out.symm.trans (by simp [Rep.same, e_text])
    clear hV HT HG1 HG2 HX HY e_text
    go_enter Try.func19, Try.ntmps19
    go_wp2_with fail
    go_ret
    exact ⟨rfl, ((Frm.refl No w).alloc _).alloc _⟩
  subst e_text
  by_cases e_t : texts = texts'
  case neg =>
    rw [decide_eq_false e_t] at HT
    obtain rfl : V = false := hV.out.symm.trans (by simp [Rep.same, e_t])
    clear hV HG1 HG2 HX HY e_t
    go_enter Try.func19, Try.ntmps19
    go_wp2_with (go_at_call 42; refine (HT.out _ (((Frm.refl No w).alloc _).alloc _)).mono ?_; rintro e1 w1 ⟨rfl, hf1⟩; have hf := (((Frm.refl No w).alloc _).alloc _).thenNo hf1; have qa := box2a hf1; have qb := box2b hf1)
    go_ret
    exact ⟨rfl, hf⟩
  subst e_t
  rw [decide_eq_true rfl] at HT
  by_cases hlen : marks.length = marks'.length
  case neg =>
    have b1 : ((marks.length : Int) == (marks'.length : Int)) = false := by simp; omega
    have b2 : ((marks.length : Int) != (marks'.length : Int)) = true := by simp; omega
    obtain rfl : V = false := hV.out.symm.trans (by
      have : ¬ marks.map Mk.put = marks'.map Mk.put := fun e => hlen (by have := congrArg List.length e; simpa using this)
      simp [Rep.same, this])
    clear hV HG1 HG2 HX HY
    go_enter Try.func19, Try.ntmps19
    go_wp2_with (go_at_call 42; refine (HT.out _ (((Frm.refl No w).alloc _).alloc _)).mono ?_; rintro e1 w1 ⟨rfl, hf1⟩; have hf := (((Frm.refl No w).alloc _).alloc _).thenNo hf1; have qa := box2a hf1; have qb := box2b hf1)
    go_ret
    exact ⟨rfl, hf⟩
  have b1 : ((marks.length : Int) == (marks'.length : Int)) = true := by simp; omega
  have b2 : ((marks.length : Int) != (marks'.length : Int)) = false := by simp; omega
  have hV' : Hid (decide (marks.map Mk.put = marks'.map Mk.put) = V) := by rw [← hV.out]; exact hid (by simp [Rep.same])
  clear hV
  go_enter Try.func19, Try.ntmps19
  go_wp2_with (go_at_call 42; refine (HT.out _ (((Frm.refl No w).alloc _).alloc _)).mono ?_; rintro e1 w1 ⟨rfl, hf1⟩; have hf := (((Frm.refl No w).alloc _).alloc _).thenNo hf1; have qa := box2a hf1; have qb := box2b hf1)
  have HF := hid hf1
  clear hf1 qa qb HT
  go_loopw [5] (fun i wr => ∃ j : Nat, j ≤ marks.length ∧ i = .int .i64 (j : Int) ∧ Hid (∀ q (h1 : q < marks.length) (h2 : q < marks'.length), q < j → Mk.put marks[q] = Mk.put marks'[q]) ∧ Frm No w1 wr) (fun i _ => marks.length - (intOf i).toNat)
  case atStart => exact ⟨0, by omega, rfl, hid (fun q _ _ h => by omega), Frm.refl _ _⟩
  case round =>
    obtain ⟨j, hj, rfl, hall, hfr⟩ := hrel
    have qa := box2a (HF.out.thenNo hfr)
    have qb := box2b (HF.out.thenNo hfr)
    by_cases hjl : j < marks.length
    · have hjb : j < marks'.length := by omega
      obtain ⟨b, o, rfl, hc⟩ := (HG1.out _ (hf.thenNo hfr)).at_ (by omega)
      obtain ⟨b', o', rfl, hc'⟩ := (HG2.out _ (hf.thenNo hfr)).at_ (by omega)
      have k1 : wr.cell? ⟨b, o + j, none⟩ = some (.float .f64 marks[j]) := by rw [hc j (by omega)]; simp [fltV]
      have k2 : wr.cell? ⟨b', o' + j, none⟩ = some (.float .f64 marks'[j]) := by rw [hc' j (by omega)]; simp [fltV]
      have kz : (j : Int) < (marks.length : Int) := by omega
      have kzb : (j : Int) < (marks'.length : Int) := by omega
      have P1 := hid (fun w => rmput_any marks[j] (HX.out _ (List.getElem_mem hjl)) w)
      have P2 := hid (fun w => rmput_any marks'[j] (HY.out _ (List.getElem_mem hjb)) w)
      have HNO := hid (puts_no hjl hjb)
      clear hc hc' HX HY HG1 HG2
      by_cases he : Mk.put marks[j] = Mk.put marks'[j]
      · have hall' : Hid (∀ q (h1 : q < marks.length) (h2 : q < marks'.length), q < j + 1 → Mk.put marks[q] = Mk.put marks'[q]) := by
          intro q h1 h2 hqj
          by_cases h : q < j
          · exact hall.out q h1 h2 h
          · obtain rfl : q = j := by omega
            exact he
        have he1 : (Mk.put marks[j] == Mk.put marks'[j]) = true := by simpa using he
        have he2 : (Mk.put marks[j] != Mk.put marks'[j]) = false := by simpa using he
        clear hall he HNO hV'
        generalize marks[j] = x at *
        generalize marks'[j] = y at *
        generalize Mk.put x = p at *
        generalize Mk.put y = p' at *
        go_wp2_with fail
        have d1 := Wd.cell k1
        have d2 := Wd.cell k2
        have da := Wd.cell (qa 6)
        have db := Wd.cell (qb 6)
        refine wp_region_frm (by kernel_rfl) (by kernel_rfl) ?_
        repeat (go_big_quiet_step (first | (with_reducible exact Calls.wd (P1.out _)) | (with_reducible exact Calls.wd (P2.out _))))
        refine wpQuiet_nil ?_
        intro wq hfq
        clear d1 d2 da db
        go_wp2_with fail
        exact ⟨⟨j + 1, by omega, by go_num, hall', hfr.thenNo hfq⟩, by simp [intOf]; omega⟩
      · obtain rfl : V = false := hV'.out.symm.trans (decide_eq_false (HNO.out he))
        have he1 : (Mk.put marks[j] == Mk.put marks'[j]) = false := by simpa using he
        have he2 : (Mk.put marks[j] != Mk.put marks'[j]) = true := by simpa using he
        clear hall he HNO hV'
        generalize marks[j] = x at *
        generalize marks'[j] = y at *
        generalize Mk.put x = p at *
        generalize Mk.put y = p' at *
        go_wp2_with fail
        have d1 := Wd.cell k1
        have d2 := Wd.cell k2
        have da := Wd.cell (qa 6)
        have db := Wd.cell (qb 6)
        refine wp_region_frm (by kernel_rfl) (by kernel_rfl) ?_
        repeat (go_big_quiet_step (first | (with_reducible exact Calls.wd (P1.out _)) | (with_reducible exact Calls.wd (P2.out _))))
        refine wpQuiet_nil ?_
        intro wq hfq
        clear d1 d2 da db
        go_wp2_with fail
        go_ret
        exact ⟨rfl, (hf.thenNo hfr).thenNo hfq⟩
    · obtain rfl : V = true := hV'.out.symm.trans (decide_eq_true (puts_yes hlen (fun q h1 h2 => hall.out q h1 h2 (by omega))))
      have kz : ¬ (j : Int) < (marks.length : Int) := by omega
      have kzb : ¬ (j : Int) < (marks'.length : Int) := by omega
      clear hall hV' HX HY HG1 HG2
      go_wp2_with fail
      go_ret
      exact ⟨rfl, hf.thenNo hfr⟩
end Go.Proofs.Ytjhodcdjkokkoaa
