/- A roll's bytes: Put. -/
import Derived.Test.YtofcmghhmklmiaaGreatRollE
import Derived.Test.YtofcmghhmklmiaaGreatChain
namespace Go.Proofs.YtofcmghhmklmiaaGreat
open Go.RowKit
open Roll

/-- A chain of writes, and beside it blocks of the call's own that no write touches. -/
structure ChL (w0 w1 : World) (B : Nat) (l : List UInt8) (N : Nat) (L : List (Nat × List Value)) : Prop where
  ex : ∃ v, Chain w0 w1 B v l N ∧ ∀ p ∈ L, v.ownBlock ≠ some p.1
  cell : ∀ p ∈ L, ∀ j, w1.cell? ⟨p.1, j, none⟩ = p.2[j]?
  ne : ∀ p ∈ L, p.1 ≠ B
  lt : ∀ p ∈ L, p.1 < w1.heap.size
def ChP (w0 : World) (B : Nat) (l : List UInt8) (N : Nat) (L : List (Nat × List Value)) (e : Ending) (w' : World) : Prop := e = .returned (.tuple #[]) ∧ ChL w0 w' B l N L
section
variable {w0 w1 w2 : World} {B N N2 : Nat} {l l2 : List UInt8} {L L2 : List (Nat × List Value)}
theorem ChL.push (h : ChL w0 w1 B l N L) (cs : List Value) (T : TypeId) : ChL w0 (w1.alloc (.cells cs.toArray T)) B l N ((w1.heap.size, cs) :: L) := by
  obtain ⟨v, hc, hv⟩ := h.ex
  have hF := (Frm.refl No w1).alloc (.cells cs.toArray T)
  have hB : B < w1.heap.size := World.block_lt_of_cell? w1 ⟨B, 0, none⟩ hc.at_.c0
  refine ⟨⟨v, hc.no hF, fun p hp => ?_⟩, fun p hp j => ?_, fun p hp => ?_, fun p hp => ?_⟩
  · rcases List.mem_cons.1 hp with rfl | hp
    · exact fun e => by have := (hc.at_.row.lt _ e).2; dsimp only at this; omega
    · exact hv p hp
  · rcases List.mem_cons.1 hp with rfl | hp
    · rw [World.cell?_alloc_at _ _ _ _ rfl]; simp
    · exact (hF.cell (p := ⟨p.1, j, none⟩) (h.lt p hp) (fun h => h)).trans (h.cell p hp j)
  · rcases List.mem_cons.1 hp with rfl | hp
    · exact fun e => by dsimp only at e; omega
    · exact h.ne p hp
  · rcases List.mem_cons.1 hp with rfl | hp
    · simp
    · exact Nat.lt_of_lt_of_le (h.lt p hp) hF.size
theorem ChL.sub (h : ChL w0 w1 B l N L) (hs : ∀ p ∈ L2, p ∈ L) (e : l = l2) (hN : N ≤ N2) : ChL w0 w1 B l2 N2 L2 := by
  subst e
  obtain ⟨v, hc, hv⟩ := h.ex
  exact ⟨⟨v, ⟨hc.at_, hc.hB, hc.ge, hc.frm, Nat.le_trans hc.len hN⟩, fun p hp => hv p (hs p hp)⟩, fun p hp => h.cell p (hs p hp), fun p hp => h.ne p (hs p hp), fun p hp => h.lt p (hs p hp)⟩
theorem ChL.post {v v2 : Value} (hc : Chain w0 w1 B v l N) (hv : ∀ p ∈ L, v.ownBlock ≠ some p.1) (h : ChL w0 w1 B l N L) (hp : OutPost B 0 w1 v l2 false v2 w2) (hl : l2.length ≤ N2) : ChL w0 w2 B l2 N2 L := by
  refine ⟨⟨v2, hc.post hp hl, fun p hq e => ?_⟩, fun p hq j => ?_, h.ne, fun p hq => Nat.lt_of_lt_of_le (h.lt p hq) hp.frm.size⟩
  · rcases hp.own with h' | ⟨k, h', hk⟩
    · exact hv p hq (h' ▸ e)
    · rw [e] at h'
      cases h'
      have := h.lt p hq
      omega
  · exact (hp.frm.cell (p := ⟨p.1, j, none⟩) (h.lt p hq) (fun e => by rcases e with e | e; exact h.ne p hq e; exact hv p hq e)).trans (h.cell p hq j)
theorem ChL.int (h : ChL w0 w1 B l N L) (n : Int) (hN : N ≤ 70368744177664) (hg : (Oct.enc n).isEmpty = false) :
    Calls Tryz.prog 34 #[.pointer (some ⟨B, 0, none⟩), .int .i64 n] w1 (ChP w0 B (l ++ Oct.enc n) (N + 8) L) := by
  obtain ⟨v, hc, hv⟩ := h.ex
  have hl := hc.len
  have he := Oct.enc_le n
  refine (out_int B 0 v l false n w1 hc.at_ (by omega)).mono ?_
  rintro e w2 ⟨rfl, v2, hp⟩
  rw [hg] at hp
  exact ⟨rfl, ChL.post hc hv h hp (by simp only [List.length_append]; omega)⟩
theorem ChL.text (h : ChL w0 w1 B l N L) (s : List UInt8) (hN : N ≤ 70368744177664) (hg : s.length ≤ 65536) :
    Calls Tryz.prog 35 #[.pointer (some ⟨B, 0, none⟩), .string ⟨s.toArray⟩] w1 (ChP w0 B (l ++ Oct.text s) (N + 65544) L) := by
  obtain ⟨v, hc, hv⟩ := h.ex
  have hl := hc.len
  have he := Oct.text_le s
  refine (out_text B 0 v l s false w1 hc.at_ (by omega) (by omega)).mono ?_
  rintro e w2 ⟨rfl, v2, hp⟩
  rw [decide_eq_false (by omega)] at hp
  exact ⟨rfl, ChL.post hc hv h hp (by simp only [List.length_append]; omega)⟩
theorem ChL.texts (h : ChL w0 w1 B l N L) (vs : Value) (ss : List (List UInt8)) (hN : N ≤ 17592186044416) (hn : ss.length ≤ 65536) (hg : Oct.badTexts ss = false) (hr : Rd w0 vs ss.length 1 (strsV ss)) :
    Calls Tryz.prog 36 #[.pointer (some ⟨B, 0, none⟩), vs] w1 (ChP w0 B (l ++ (Oct.enc ss.length ++ Oct.texts ss)) (N + 4295557128) L) := by
  obtain ⟨v, hc, hv⟩ := h.ex
  have hl := hc.len
  have he := Oct.enc_le ss.length
  have ht := Oct.texts_le ss
  have hs : ∀ s ∈ ss, s.length ≤ 281474976710656 := by
    intro s hs
    simp only [Oct.badTexts, List.any_eq_false, decide_eq_true_eq] at hg
    have := hg s hs
    omega
  refine (out_texts B 0 v l false vs ss w1 hc.at_ (by omega) hs (hr.frm hc.frm (fun _ _ h => h)) ?_).mono ?_
  · intro k hk h0
    obtain ⟨ao, c, rfl⟩ := hr.shape
    obtain ⟨b', o', rfl, hcc⟩ := hr.at_ (by omega)
    have hck := hcc 0 (by omega)
    have hb' : b' < w0.heap.size := by
      refine World.block_lt_of_cell? (u := .string ⟨(ss[0]'h0).toArray⟩) w0 ⟨b', o' + 0, none⟩ ?_
      rw [hck]
      simp [strsV]
    simp only [Value.ownBlock, Option.some.injEq] at hk
    have hB := hc.hB
    rintro (rfl | hs)
    · omega
    · have := hc.ge _ hs
      omega
  · rintro e w2 ⟨rfl, v2, hp⟩
    rw [hg, decide_eq_false (by omega)] at hp
    exact ⟨rfl, ChL.post hc hv h hp (by simp only [List.length_append]; omega)⟩
theorem ChL.frm (h : ChL w0 w1 B l N L) : Frm No w0 w1 := by
  obtain ⟨v, hc, -⟩ := h.ex
  exact hc.frm
end
theorem strs_rd {w : World} {v : Value} {l : List B} (h : RdL w v 1 strV l) : Rd w v l.length 1 (strsV l) :=
  show Rd w v l.length 1 (l.map fun s : B => Value.string ⟨List.toArray s⟩) from h.toRd (fun _ => rfl)
theorem name_fits {n : B} (h : Cmd.gn n = true) : n.length ≤ 65536 := by have := (Cmd.gn_len h).2; omega
theorem names_fit {l : List B} (h : ∀ s ∈ l, Cmd.gn s = true) : Oct.badTexts l = false := by
  simp only [Oct.badTexts, List.any_eq_false, decide_eq_true_eq]
  intro s hs
  have := name_fits (h s hs)
  omega
theorem mems_snoc (l : List Mem) (k : Nat) (h : k < l.length) : (l.take (k + 1)).flatMap memB = (l.take k).flatMap memB ++ memB l[k] := by
  rw [List.take_succ_eq_append_getElem h, List.flatMap_append]
  simp
theorem clss_snoc (l : List Cls) (k : Nat) (h : k < l.length) : (l.take (k + 1)).flatMap clsB = (l.take k).flatMap clsB ++ clsB l[k] := by
  rw [List.take_succ_eq_append_getElem h, List.flatMap_append]
  simp
set_option maxRecDepth 100000 in
set_option maxHeartbeats 4000000 in
theorem rput_any (R : Rl) (mv cv : Value) (w : World) (hr : RlR w mv cv R) (hI : Inv R) :
    Calls Tryz.prog 9 #[.agg #[mv, cv]] w fun e w' => e = .returned (.string ⟨(Roll.put R).toArray⟩) ∧ Frm No w w' := by
  have HR := hid hr
  have HI := hid hI
  have hml := hI.ml
  have hcl := hI.cl
  obtain ⟨mao, mcp, rfl⟩ := hr.mr.shape
  obtain ⟨cs, hfs, hc, hst⟩ := hr.cr
  have hcsl : cs.length = R.clss.length := by rw [← hfs]; simp
  have HC := hid hc
  have HST := hid hst
  have HFS := hid hfs
  have HCS := hid hcsl
  obtain ⟨cao, ccp, rfl⟩ := hc.shape
  have hcl2 : cs.length ≤ 32 := by omega
  have HP : Hid (Roll.put R = Oct.enc R.mems.length ++ R.mems.flatMap memB ++ (Oct.enc cs.length ++ R.clss.flatMap clsB)) := hid (by unfold Roll.put; rw [hcsl])
  rw [HP.out]
  clear hr hI hc hst hfs hcsl hcl HP
  have z1 : (Oct.enc (R.mems.length : Int)).isEmpty = false := Cmd.enc_small (by omega) (by omega)
  have z2 : (Oct.enc (cs.length : Int)).isEmpty = false := Cmd.enc_small (by omega) (by omega)
  have HZ := hid (And.intro z1 z2)
  clear z1 z2
  obtain ⟨ml, hmle⟩ : ∃ ml, R.mems.length = ml := ⟨_, rfl⟩
  obtain ⟨cl, hcle⟩ : ∃ cl, cs.length = cl := ⟨_, rfl⟩
  rw [hmle] at hml HZ ⊢
  rw [hcle] at hcl2 HZ ⊢
  have HML := hid hmle
  have HCL := hid hcle
  clear hmle hcle
  go_enter Tryz.func9, Tryz.ntmps9
  go_upto_region 2 with fail
  have c0 := Chain.new ((Frm.refl No w).alloc (.cells #[.slice mao ml mcp, .slice cao cl ccp] 27)) 70
  have hlB : w.heap.size < ((w.alloc (.cells #[.slice mao ml mcp, .slice cao cl ccp] 27)).alloc (.cells #[.slice none 0 0, .bool false] 70)).heap.size := by simp; omega
  have hcB : ∀ j, ((w.alloc (.cells #[.slice mao ml mcp, .slice cao cl ccp] 27)).alloc (.cells #[.slice none 0 0, .bool false] 70)).cell? ⟨w.heap.size, j, none⟩ = ([.slice mao ml mcp, .slice cao cl ccp] : List Value)[j]? := ((Box.new (Frm.refl No w) [.slice mao ml mcp, .slice cao cl ccp] 27).no ((Frm.refl No _).alloc _)).cell
  have x0 : ChL w ((w.alloc (.cells #[.slice mao ml mcp, .slice cao cl ccp] 27)).alloc (.cells #[.slice none 0 0, .bool false] 70)) (w.heap.size + 1) [] 0 [(w.heap.size, [.slice mao ml mcp, .slice cao cl ccp])] := ⟨⟨_, by simpa using c0, by simp [Value.ownBlock]⟩, by simp, by simp, by simpa using hlB⟩
  clear c0 hlB hcB
  generalize (w.alloc (.cells #[.slice mao ml mcp, .slice cao cl ccp] 27)).alloc (.cells #[.slice none 0 0, .bool false] 70) = W at *
  obtain ⟨b, hb⟩ : ∃ b, w.heap.size = b := ⟨_, rfl⟩
  rw [hb] at x0
  simp only [hb]
  have cW := x0.cell _ (List.mem_singleton.2 rfl)
  have HX0 := hid x0
  clear x0
  go_upto_region 4 with (go_at_call 34; refine (HX0.out.int (ml : Int) (by omega) HZ.out.1).mono ?_; rintro e w1 ⟨rfl, x1⟩; have c1 := x1.cell _ (List.mem_singleton.2 rfl))
  have HX1 := hid x1
  clear x1 cW HX0 c1
  go_loopw [5, 17] (fun _ i wr => ∃ k : Nat, k ≤ ml ∧ i = .int .i64 (k : Int) ∧ ChL w wr (b + 1) (Oct.enc ml ++ (R.mems.take k).flatMap memB) (8 + 65560 * k) [(b, [.slice mao ml mcp, .slice cao cl ccp])])
    (fun _ i _ => ml - (intOf i).toNat)
  case atStart => exact ⟨0, by omega, rfl, HX1.out.sub (fun _ h => h) (by simp) (by omega)⟩
  case round =>
    clear HX1
    obtain ⟨k, hk, rfl, hx⟩ := hrel
    have cW := hx.cell _ (List.mem_singleton.2 rfl)
    by_cases hkl : k < ml
    · as_aux_lemma =>
      have hkm : k < R.mems.length := by rw [HML.out]; exact hkl
      have hrd := (HR.out.no hx.frm).mr
      obtain ⟨bm, om, rfl, hc⟩ := hrd.at_ (by omega)
      have q := hc k hkm
      have HSN := hid (mems_snoc R.mems k hkm)
      obtain ⟨g1, g2, g3, g4⟩ := HI.out.mg R.mems[k] (List.getElem_mem hkm)
      obtain ⟨x, hxk⟩ : ∃ x, R.mems[k] = x := ⟨_, rfl⟩
      rw [hxk] at q HSN g1 g2 g3 g4
      obtain ⟨nm, ro, qu⟩ := x
      have q0 : wr.cell? ⟨bm, om + k * 3, none⟩ = some (.string ⟨nm.toArray⟩) := q 0 (by omega)
      have q1 : wr.cell? ⟨bm, om + k * 3 + 1, none⟩ = some (.int .i64 ro) := q 1 (by omega)
      have q2 : wr.cell? ⟨bm, om + k * 3 + 2, none⟩ = some (.int .i64 qu) := q 2 (by omega)
      dsimp only at g1 g2 g3 g4
      have z1 : (Oct.enc ro).isEmpty = false := Cmd.enc_small (by omega) (by omega)
      have z2 : (Oct.enc qu).isEmpty = false := Cmd.enc_small (by omega) (by omega)
      have HZZ := hid (And.intro (name_fits g1) (And.intro z1 z2))
      have hx2 := hx.push [.string ⟨nm.toArray⟩, .int .i64 ro, .int .i64 qu] 45
      have HX2 := hid hx2
      have HMB : Hid (memB ⟨nm, ro, qu⟩ = Oct.text nm ++ Oct.enc ro ++ Oct.enc qu) := hid rfl
      have hkz : (k : Int) < (ml : Int) := by omega
      clear q hc hrd g1 g2 g3 g4 z1 z2 hxk HR HI HST HFS HCS HC hx hx2
      obtain ⟨D, hD⟩ : ∃ D, wr.heap.size = D := ⟨_, rfl⟩
      rw [hD] at HX2
      have HD := hid hD
      clear hD
      go_upto_region 6 with fail
      rw [HD.out]
      generalize wr.alloc (.cells #[.string ⟨nm.toArray⟩, .int .i64 ro, .int .i64 qu] 45) = wa at *
      have y0 := HX2.out.cell _ (List.mem_cons_self ..)
      go_wp2_with fail
      refine (HX2.out.text nm (by omega) HZZ.out.1).mono ?_
      rintro e w2 ⟨rfl, x2⟩
      have y1 := x2.cell _ (List.mem_cons_self ..)
      go_wp2_with fail
      refine (x2.int ro (by omega) HZZ.out.2.1).mono ?_
      rintro e w3 ⟨rfl, x3⟩
      have y2 := x3.cell _ (List.mem_cons_self ..)
      go_wp2_with fail
      refine (x3.int qu (by omega) HZZ.out.2.2).mono ?_
      rintro e w4 ⟨rfl, x4⟩
      go_wp2_with fail
      exact ⟨⟨k + 1, by omega, by go_num, x4.sub (fun p hp => List.mem_cons_of_mem _ hp) (by rw [HSN.out, HMB.out]; simp only [List.append_assoc]) (by omega)⟩, by simp only [intOf]; omega⟩
    · as_aux_lemma =>
      obtain rfl : ml = k := by omega
      have htk : R.mems.take ml = R.mems := by rw [← HML.out, List.take_length]
      rw [htk] at hx
      have HX := hid hx
      clear hx htk
      go_upto_region 12 with (go_at_call 34; refine (HX.out.int (cl : Int) (by omega) HZ.out.2).mono ?_; rintro e w1 ⟨rfl, x1⟩; have c1 := x1.cell _ (List.mem_singleton.2 rfl))
      have HX1 := hid x1
      clear x1 cW HX c1
      obtain ⟨MB, hMB⟩ : ∃ MB, Oct.enc (ml : Int) ++ R.mems.flatMap memB = MB := ⟨_, rfl⟩
      rw [hMB] at HX1
      have HMB := hid hMB
      clear hMB
      go_loopw [7, 38] (fun _ i wr => ∃ k : Nat, k ≤ cl ∧ i = .int .i64 (k : Int) ∧ ChL w wr (b + 1) (MB ++ Oct.enc cl ++ (R.clss.take k).flatMap clsB) (8 + 65560 * ml + 8 + 4295688216 * k) [(b, [.slice mao ml mcp, .slice cao cl ccp])])
        (fun _ i _ => cl - (intOf i).toNat)
      case atStart => exact ⟨0, by omega, rfl, HX1.out.sub (fun _ h => h) (by simp) (by omega)⟩
      case round =>
        clear HX1
        obtain ⟨k, hk, rfl, hx⟩ := hrel
        have cW := hx.cell _ (List.mem_singleton.2 rfl)
        by_cases hkl : k < cl
        · as_aux_lemma =>
          have hkm : k < cs.length := by rw [HCL.out]; exact hkl
          have hkR : k < R.clss.length := by have := HCS.out; omega
          have hrd : RdL wr (.slice cao cs.length ccp) 3 clsV cs := HC.out.frm (fun _ _ => rfl) hx.frm (fun _ _ h => h)
          obtain ⟨bm, om, rfl, hc⟩ := hrd.at_ (by omega)
          have q := hc k hkm
          have HSN := hid (clss_snoc R.clss k hkR)
          have hx1 : cs[k].1 = R.clss[k] := by
            have := HFS.out
            simp only [← this, List.getElem_map]
          obtain ⟨g1, ⟨mt, gt, gt2, -⟩, g3, -⟩ := HI.out.cg R.clss[k] (List.getElem_mem hkR)
          have gtn := (HI.out.mg mt gt).1
          rw [gt2] at gtn
          have gl := HI.out.students (List.getElem_mem hkR)
          have gs := fun s hs => HI.out.stname (List.getElem_mem hkR) (s := s) hs
          have hst := HST.out cs[k] (List.getElem_mem hkm)
          rw [← hx1] at HSN g1 gtn gl gs
          obtain ⟨x, hxk⟩ : ∃ x, cs[k] = x := ⟨_, rfl⟩
          rw [hxk] at q HSN g1 gtn gl gs hst
          obtain ⟨⟨nm, te, st⟩, so, sc⟩ := x
          have q0 : wr.cell? ⟨bm, om + k * 3, none⟩ = some (.string ⟨nm.toArray⟩) := q 0 (by omega)
          have q1 : wr.cell? ⟨bm, om + k * 3 + 1, none⟩ = some (.string ⟨te.toArray⟩) := q 1 (by omega)
          have q2 : wr.cell? ⟨bm, om + k * 3 + 2, none⟩ = some (.slice so st.length sc) := q 2 (by omega)
          dsimp only at g1 gtn gl gs
          have hrs : Rd w (.slice so st.length sc) st.length 1 (strsV st) := strs_rd hst
          have HZZ := hid (And.intro (name_fits g1) (And.intro (name_fits gtn) (And.intro (names_fit gs) (And.intro hrs gl))))
          have hx2 := hx.push [.string ⟨nm.toArray⟩, .string ⟨te.toArray⟩, .slice so st.length sc] 53
          have HX2 := hid hx2
          have HMB : Hid (clsB ⟨nm, te, st⟩ = Oct.text nm ++ Oct.text te ++ (Oct.enc st.length ++ Oct.texts st)) := hid rfl
          have hkz : (k : Int) < (cl : Int) := by omega
          clear q hc hrd g1 gt gt2 gtn gl gs g3 hst hrs hxk hx1 HR HI HST HFS HCS HC hx hx2
          obtain ⟨D, hD⟩ : ∃ D, wr.heap.size = D := ⟨_, rfl⟩
          rw [hD] at HX2
          have HD := hid hD
          clear hD
          go_upto_region 14 with fail
          rw [HD.out]
          generalize wr.alloc (.cells #[.string ⟨nm.toArray⟩, .string ⟨te.toArray⟩, .slice so st.length sc] 53) = wa at *
          have y0 := HX2.out.cell _ (List.mem_cons_self ..)
          go_wp2_with fail
          refine (HX2.out.text nm (by omega) HZZ.out.1).mono ?_
          rintro e w2 ⟨rfl, x2⟩
          have y1 := x2.cell _ (List.mem_cons_self ..)
          go_wp2_with fail
          refine (x2.text te (by omega) HZZ.out.2.1).mono ?_
          rintro e w3 ⟨rfl, x3⟩
          have y2 := x3.cell _ (List.mem_cons_self ..)
          go_wp2_with fail
          refine (x3.texts _ st (by omega) (by have := HZZ.out.2.2.2.2; omega) HZZ.out.2.2.1 HZZ.out.2.2.2.1).mono ?_
          rintro e w4 ⟨rfl, x4⟩
          go_wp2_with fail
          exact ⟨⟨k + 1, by omega, by go_num, x4.sub (fun p hp => List.mem_cons_of_mem _ hp) (by rw [HSN.out, HMB.out]; simp only [List.append_assoc]) (by omega)⟩, by simp only [intOf]; omega⟩
        · as_aux_lemma =>
          obtain rfl : cl = k := by omega
          have htk : R.clss.take cl = R.clss := by rw [← HCL.out, HCS.out, List.take_length]
          rw [htk] at hx
          obtain ⟨v, hch, -⟩ := hx.ex
          have HCH := hid hch
          clear hx htk hch
          go_wp2_with (go_at_call 37; refine HCH.out.bytes.mono ?_; rintro e2 w2 ⟨rfl, rfl⟩)
          go_ret
          refine ⟨?_, HCH.out.frm⟩
          rw [HMB.out]
          rfl
end Go.Proofs.YtofcmghhmklmiaaGreat
