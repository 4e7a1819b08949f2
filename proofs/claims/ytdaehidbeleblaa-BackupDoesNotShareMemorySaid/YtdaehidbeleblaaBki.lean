/- The archive: FullBackup. -/
import Derived.Test.YtdaehidbeleblaaBkl
import Derived.Test.YtdaehidbeleblaaBke
namespace Go.Proofs.Ytdaehidbeleblaa.Bk
open Go Go.RowKit Hp
open Mv (Val rowC rowC_len rowC_one rowC_get RM rmC rmC1 rmC_len rmC_get erR RecsR RecsS Srt pos has pos_le has_pos fm_len fm_take fm_drop fm_get fm_set fm_one cloneR)
set_option linter.unusedVariables false

theorem chStep_mem {s : Recs} {c : Ch} {y : ByteArray × List Val} (h : y ∈ chStep s c) : y ∈ s ∨ y = (c.key, c.row) := by
  unfold chStep at h
  split at h
  · split at h
    · rcases List.mem_append.1 h with h | h
      · exact .inl (List.mem_of_mem_take h)
      · exact .inl (List.mem_of_mem_drop h)
    · exact List.mem_or_eq_of_mem_set h
  · split at h
    · exact .inl h
    · rcases List.mem_append.1 h with h | h
      · exact .inl (List.mem_of_mem_take h)
      · rcases List.mem_cons.1 h with h | h
        · exact .inr h
        · exact .inl (List.mem_of_mem_drop h)
theorem foldC_mem {s : Recs} {b t : Int} {l : List Ch} {y : ByteArray × List Val} (h : y ∈ foldC s b t l) : y ∈ s ∨ ∃ c ∈ l, y = (c.key, c.row) := by
  induction l generalizing s with
  | nil => exact .inl h
  | cons c l ih =>
    rcases ih (s := if b < c.time ∧ c.time ≤ t then chStep s c else s) h with h | ⟨c', hc, h⟩
    · split at h
      · rcases chStep_mem h with h | h
        · exact .inl h
        · exact .inr ⟨c, List.mem_cons_self .., h⟩
      · exact .inl h
    · exact .inr ⟨c', List.mem_cons_of_mem _ hc, h⟩
theorem stA_info {A : Ar} (ok : AOk A) (t : Int) : Srt (stA A t) ∧ ∀ r ∈ stA A t, r.1.size ≤ 24 ∧ r.2.length ≤ 6 := by
  have hb : Srt (stB A.recs (baseA A.baks t).2) ∧ ∀ i ∈ (baseA A.baks t).2, i < A.recs.length := by
    rcases base_mem A.baks t with h | h
    · rw [h]; exact ⟨List.Pairwise.nil, fun i hi => by cases hi⟩
    · exact ⟨ok.srt _ h, ok.ilt _ h⟩
  refine ⟨(foldC_ok hb.1 _ _ _).1, fun r hr => ?_⟩
  rcases foldC_mem hr with h | ⟨c, hc, rfl⟩
  · obtain ⟨i, hi, rfl⟩ := List.mem_map.1 h
    have hl := hb.2 i hi
    have : recD A.recs i = A.recs[i] := by simp [recD, List.getD, hl]
    rw [this]
    exact ok.rr _ (List.getElem_mem hl)
  · exact ok.ch c hc
theorem up_hid {w W w' : World} {r : Option Nat} (hg : W.grownBy w' r) (hu : Up w W) : Hid (Up w W) := hu
theorem cells_B (w : World) (cs : Array Value) (E : TypeId) (o : Obj) : ∀ (j : Nat) u, cs.toList[j]? = some u → (((w.alloc (.cells cs E)).alloc o).drew).cell? ((⟨w.heap.size, 0, none⟩ : Addr).add j) = some u := by
  intro j u hj
  rw [Addr.add_lit, Nat.zero_add]
  exact ((At.new w cs E j u (by simpa using hj)).grow ((Up.refl _).alloc o)).2
theorem cells_C (w : World) (o : Obj) (cs : Array Value) (E : TypeId) : ∀ (j : Nat) u, cs.toList[j]? = some u → (((w.alloc o).alloc (.cells cs E)).drew).cell? ((⟨w.heap.size + 1, 0, none⟩ : Addr).add j) = some u := by
  intro j u hj
  rw [Addr.add_lit, Nat.zero_add]
  have := (At.new (w.alloc o) cs E j u (by simpa using hj)).2
  rw [show (w.alloc o).heap.size = w.heap.size + 1 by simp] at this
  exact this
theorem at_B2 (w : World) (o : Obj) (v : Value) (E : TypeId) : (((w.alloc o).alloc (.cells #[v] E)).drew).cell? ⟨w.heap.size + 1, 0, none⟩ = some v := by
  have := (At.new (w.alloc o) #[v] E 0 v rfl).2
  rw [show (w.alloc o).heap.size = w.heap.size + 1 by simp] at this
  exact this
theorem at_C2 (w : World) (o : Obj) (v : Value) (E : TypeId) : (((w.alloc (.cells #[v] E)).alloc o).drew).cell? ⟨w.heap.size, 0, none⟩ = some v :=
  ((At.new w #[v] E 0 v rfl).grow ((Up.refl _).alloc o)).2
theorem at_one {w : World} {g : Nat} {v : Value} (h : At w g 0 v) : ∀ (j : Nat) u, [v][j]? = some u → w.cell? ((⟨g, 0, none⟩ : Addr).add j) = some u := by
  intro j u hj
  rw [Addr.add_lit, Nat.zero_add]
  cases j with
  | zero => simp at hj; subst hj; exact h.2
  | succ j => simp at hj
def FullPost (p : Nat) (A : Ar) (F : Nat → Prop) (t : Int) (w : World) (e : Ending) (w' : World) : Prop :=
  ∃ A' st idx, e = .returned (.tuple #[.int .i64 st, .int .i64 0]) ∧ ArPost p A' F w w' ∧ FB A (stA A t) (stA A t).length A'.recs A'.refs idx st ∧ A'.baks = A.baks ++ [(t, idx)] ∧ A'.chgs = A.chgs ∧ A'.earl = A.earl
set_option maxRecDepth 100000 in
set_option maxHeartbeats 8000000 in
theorem full_any (p : Nat) (A : Ar) (F : Nat → Prop) (t : Int) (w : World) (h : ArR w p A F) (h1 : latA A < t) (h2 : t ≤ 1099511627776) (h3 : A.baks.length < 20) (h4 : (stA A t).length ≤ 40) (h5 : A.earl ≤ t) (h6 : A.recs.length ≤ 99000) :
    Calls Try.prog 15 #[.pointer (some ⟨p, 0, none⟩), .int .i64 t] w (FullPost p A F t w) := by
  obtain ⟨i1, hi1, hz3, hz4, hz5⟩ := info_parts Try.infoInt
  obtain ⟨i0, hi0, hz0, hz1, hz2⟩ := info_parts Mv.Try.infoRec
  obtain ⟨iB, hiB, hzB0, hzB1, hzB2⟩ := info_parts Mv.Try.info_cloneFB
  have hA3 := Lib.hid h3
  have HR := Lib.hid h
  have INFO := Lib.hid (stA_info h.ok t)
  obtain ⟨L, hL⟩ : ∃ L, latA A = L := ⟨_, rfl⟩
  have HL := Lib.hid hL
  rw [hL] at h1
  have h1' : ¬ t ≤ L := by omega
  have h2' : ¬ 1099511627776 < t := by omega
  obtain ⟨rs, bs, cs, rv, fv, bv, cv, hP, e1, e2, e3, ok⟩ := h
  have hbl : bs.length = A.baks.length := by rw [← e2, List.length_map]
  have hb3 : bs.length < 20 := by rw [hbl]; exact h3
  obtain ⟨ba, bc, rfl, hbc1, hbc2, _⟩ := own_form hP.bak
  obtain ⟨hpl, c2⟩ := (hP.blk.at (i := 2) rfl)
  have HP := Lib.hid hP
  have HE := Lib.hid (And.intro e1 (And.intro e2 (And.intro e3 ok)))
  have hne : ¬ (bs.length : Int) = 20 := by omega
  have hneb : ((bs.length : Int) == 20) = false := beq_eq_false_iff_ne.2 hne
  obtain ⟨S, hS⟩ : ∃ S, stA A t = S := ⟨_, rfl⟩
  have HS := Lib.hid hS
  unfold FullPost
  rw [hS] at INFO h4 ⊢
  clear hL hP e1 e2 e3 ok hbl hS
  go_enter Try.func15, Try.ntmps15
  go_wp2_with (first
    | (go_at_call 14; refine (state_any p A F t _ (HR.out.up H1.out) h5).mono ?_; rintro e w2 ⟨v, rfl, h6, h7⟩; rw [HS.out] at h6; obtain ⟨qs, q1, q2, q3, q4⟩ := h6; obtain ⟨sa, sc, rfl, hsc1, hsc2, _⟩ := own_form q2; have hql : qs.length ≤ 40 := (by have := congrArg List.length q1; rw [List.length_map] at this; omega); have Q1 := Lib.hid q1; have Q2 := Lib.hid q2; have Q3 := Lib.hid q3; have Q4 := Lib.hid q4; have H2 := Lib.hid h7; clear q1 q2 q3 q4 h7)
    | (go_at_call 21; refine (latest_of HR.out HL.out).mono ?_; rintro e w1 ⟨rfl, h3⟩; have c2 := (h3.cell (p := ⟨p, 2, none⟩) hpl).trans c2; have hpl1 : p < w1.heap.size := Nat.lt_of_lt_of_le hpl h3.size; have H1 := Lib.hid h3; clear h3)
    | fail)
  have ST : Hid (FBM w (w2.alloc (.cells #[.int .i64 t, .slice none 0 0] 55)) p F A.earl t w2.heap.size bs cs (.slice ba bs.length bc) cv (.slice sa qs.length sc) qs rs A.refs [] rv fv (.slice none 0 0)) := FBM.start HP.out (H1.out.trans H2.out) (own_base' Q2.out fun k hk => by have := ((own_ty Q2.out) k hk).2; have := H1.out.size; omega) fun r hr => own_base' (Q3.out r hr) fun k hk => by have := ((own_ty (Q3.out r hr)) k hk).2; have := H1.out.size; omega
  have FB0 := Lib.hid (fb_zero HE.out.2.2.2 S)
  have HLT := Lib.hid HR.out.lt
  have hb20 := hb3
  clear hb3
  go_loopw [9, 38] (fun stv iv wr => ∃ (j : Nat) (st : Int), j ≤ qs.length ∧ stv = .int .i64 st ∧ iv = .int .i64 j ∧ Hid (∃ rs refs idx rv fv v, FBM w wr p F A.earl t w2.heap.size bs cs (.slice ba bs.length bc) cv (.slice sa qs.length sc) qs rs refs idx rv fv v ∧ FB A S j (rs.map erR) refs idx st)) (fun _ iv _ => qs.length - (intOf iv).toNat)
  case atStart => exact ⟨0, 0, by omega, rfl, rfl, _, _, _, _, _, _, ST.out, by rw [HE.out.1]; exact FB0.out⟩
  case round =>
    obtain ⟨j, st, hj, rfl, rfl, HD⟩ := hrel
    obtain ⟨rs, refs, idx, rv, fv, iv, hM, hF⟩ := HD.out
    have M := Lib.hid hM
    have FBH := Lib.hid hF
    have hst := hF.st0
    have hix : idx.length ≤ 40 := by have := hF.il; omega
    have hrl : refs.length = rs.length := by have := hF.rl; rw [List.length_map] at this; exact this
    have hrb : rs.length ≤ 99100 := by have := hF.big; rw [List.length_map] at this; omega
    have HRW : Hid (∀ r ∈ rs, r.row.length ≤ 6) := fun r hr => (hF.rr (erR r) (List.mem_map.2 ⟨r, hr, rfl⟩)).2
    have HRL := Lib.hid hrl
    obtain ⟨va, vc, rfl, hvc1, hvc2, _⟩ := own_form hM.own
    by_cases hlt : j < qs.length
    · have hlS : j < S.length := by rw [← Q1.out, List.length_map]; exact hlt
      have HSJ : Hid (S[j] = erR qs[j]) := by unfold Hid; simp only [← Q1.out, List.getElem_map]
      have hSI := INFO.out.2 _ (List.getElem_mem hlS)
      have HSI := Lib.hid hSI
      have HMEM := Lib.hid (List.getElem_mem hlt)
      rw [HSJ.out] at hSI
      have hrow : qs[j].row.length ≤ 6 := hSI.2
      obtain ⟨sg, scp, hsv, _, _, hsg, hsat, _⟩ := own_some hM.sto (by omega)
      simp only [Value.slice.injEq] at hsv
      obtain ⟨rfl, _, rfl⟩ := hsv
      have s0 := hsat _ _ (rmC_get qs j hlt).1
      have s1 := hsat _ _ (rmC_get qs j hlt).2
      have SR := Lib.hid (own_src (hM.row _ (List.getElem_mem hlt)))
      obtain ⟨xa, xc, hxv⟩ := Mv.src_rn SR.out
      rw [hxv] at s1 SR
      obtain ⟨hpw, c0⟩ := (hM.ar.blk.at (i := 0) rfl)
      obtain ⟨_, c1⟩ := (hM.ar.blk.at (i := 1) rfl)
      have hjq : (j : Int) < (qs.length : Int) := by omega
      clear hM hF HD hsat hrl hSI
      have HQX : Hid (Hid (qs[j] ∈ qs)) := HMEM
      have hkey : Hid (qs[j].key.size ≤ 24) := by have := HSI.out.1; rw [HSJ.out] at this; exact this
      obtain ⟨x, hx⟩ : ∃ x, x = qs[j] := ⟨_, rfl⟩
      rw [← hx] at s0 s1 SR HSJ HMEM hrow hxv
      have HXV := Lib.hid hxv
      clear HQX hx hxv
      have HITI : Hid (∀ i, Hit rs refs x.key x.row i → i < (rs.map erR).length ∧ 0 < refs.getD i 0 ∧ recD (rs.map erR) i = S[j]) := fun i ⟨h1, h2, h3, h4⟩ => by
        refine ⟨by rw [List.length_map]; exact h1, h2, ?_⟩
        rw [HSJ.out]
        simp [recD, List.getD, h1, erR, h3, h4]
      have MISI : Hid ((¬ ∃ i, Hit rs refs x.key x.row i) → ∀ i, i < (rs.map erR).length → 0 < refs.getD i 0 → recD (rs.map erR) i ≠ S[j]) := fun hn i h1 h2 h3 => by
        rw [List.length_map] at h1
        rw [HSJ.out] at h3
        simp [recD, List.getD, h1, erR] at h3
        exact hn ⟨i, h1, h2, h3.1, h3.2⟩
      by_cases hh : ∃ i, Hit rs refs x.key x.row i
      · obtain ⟨i, hi, hmin⟩ := hit_first hh
        have HI := Lib.hid hi
        have HMIN := Lib.hid hmin
        obtain ⟨hil1, hip, _⟩ := id hi
        have hir : i < refs.length := by rw [HRL.out]; exact hil1
        obtain ⟨fg, fcp, hfv, _, _, hfg, hfat, hff⟩ := own_some M.out.ar.ref (by omega)
        subst hfv
        have f0 := hfat _ _ (icN_get refs i hir)
        have hgd : Hid (refs.getD i 0 = refs[i]) := by unfold Hid; simp [List.getD, hir]
        obtain ⟨n, hn⟩ : ∃ n, n = refs[i] := ⟨_, rfl⟩
        rw [← hn] at f0 hgd
        clear hfat hn hi hmin hh
        have hfgw : fg < wr.heap.size := hfg
        have hne1 : ¬ fg = w2.heap.size := (M.out.ar.refF fg rfl).2.1
        have hne2 : ¬ w2.heap.size = fg := fun e => hne1 e.symm
        have hbb := M.out.blk.lt
        have b1 := M.out.blk.cell 1
        rw [show ([Value.int .i64 t, Value.slice va idx.length vc])[1]? = some (.slice va idx.length vc) from rfl] at b1
        have hir2 : (i : Int) < (refs.length : Int) := by omega
        have hnb : n ≤ 1000 := by rw [← hgd.out]; exact fb_small HE.out.2.2.2 FBH.out (by omega) hir
        have FBN := Lib.hid (fb_hit FBH.out hlS (HITI.out i HI.out).1 hgd.out (by rw [← hgd.out]; exact hip) (HITI.out i HI.out).2.2)
        go_wp2_with (first
          | (at_builtin; refine wpList_append_lies _ rfl (.tmp 97) (.tmp 99) 22 rfl w.heap.size 3 i1 (.int .i64 0) 1 8 Try.underlying22 hi1 hz3 hz4 hz5 rfl (by decide) (.slice va idx.length vc) idx.length (icN idx) rfl (own_up M4.out.own ((Up.refl _).alloc _)) ⟨w3.heap.size, 0, none⟩ 1 1 [.int .i64 i] rfl rfl (cell_int _ _ _ _ (by simp [World.setCell])) (by intro u hu; rw [List.mem_singleton.1 hu]; rfl) (by decide) (by unfold maxLen; omega) (by omega) (Nat.le_trans M4.out.chg.size ((Up.refl _).alloc _).size) _ rfl ?_; intro g2 c2 w4 hown2 hgrow2 hat2 hlt2; have q0 := fld_far M4.out.blk (by decide) (own_base' M4.out.own fun _ _ => Nat.zero_le _) ((Up.refl _).alloc _) hgrow2; have q1 := q0.cell 1; rw [show ([Value.int .i64 t, Value.slice va idx.length vc])[1]? = some (.slice va idx.length vc) from rfl] at q1; have q2 := q0.free 1; clear q0; have M5 := Lib.hid (M4.out.snoc HLT.out hown2 hgrow2 (hat2.imp id fun e => by simpa using e)); clear hown2 hgrow2 hat2)
          | (go_at_call 29; refine (find_hit (M.out.ar.up ((Up.refl wr).alloc _)) HRL.out (by omega) HRW.out (SR.out.up ((Up.refl wr).alloc _)) hrow HI.out HMIN.out).mono ?_; rintro e w3 ⟨rfl, h4⟩; have h4' := ((Up.refl wr).alloc (.cells #[.string x.key, .slice xa x.row.length xc] 40)).trans h4; have z1 := (h4'.cell (p := ⟨p, 1, none⟩) hpw).trans c1; have z2 := (h4'.cell (p := ⟨fg, i, none⟩) hfgw).trans f0; have z3 := (h4'.cell (p := ⟨w2.heap.size, 1, none⟩) hbb).trans b1; have z4 := (own_some (own_up M.out.ar.ref h4') (by omega)); obtain ⟨fg', fcp', hfv', _, _, hfg', _, hff'⟩ := z4; simp only [Value.slice.injEq, Option.some.injEq, Addr.mk.injEq] at hfv'; obtain ⟨⟨rfl, _, _⟩, _, rfl⟩ := hfv'; have z5 := hff' i; clear hff'; have z6 := (M.out.up HLT.out h4').blk.free 1; have M4 := Lib.hid ((M.out.up HLT.out h4').setRef HLT.out hir (n + 1)); have H4 := Lib.hid h4'; have hpw3 := Nat.lt_of_lt_of_le hpw h4'.size; have hbb3 := Nat.lt_of_lt_of_le hbb h4'.size; clear h4 h4')
          | fail)
        go_roundw
        case rel => exact ⟨j + 1, st, by omega, rfl, by go_num, _, _, _, _, _, _, M5.out, FBN.out⟩
        case measure => simp [intOf]; omega
      · have MIS := Lib.hid (MISI.out hh)
        have NH := Lib.hid hh
        clear hh MISI
        by_cases hz : ∃ i, i < refs.length ∧ refs.getD i 0 = 0
        · obtain ⟨z, hzl1, hzl2, hzl3⟩ := zero_first hz
          have HZ3 := Lib.hid hzl3
          have HZ2 := Lib.hid hzl2
          have hzr : z < rs.length := by rw [← HRL.out]; exact hzl1
          have FBN := Lib.hid (fb_slot FBH.out hlS HSI.out (by rw [List.length_map]; exact hzr) hzl2 MIS.out)
          have hgd : refs[z] = 0 := by have := hzl2; simp [List.getD, hzl1] at this; exact this
          have HGD := Lib.hid hgd
          obtain ⟨fg, fcp, hfv, _, _, hfg, hfat, hff⟩ := own_some M.out.ar.ref (by omega)
          subst hfv
          have f0 := hfat _ _ (icN_get refs z hzl1)
          rw [hgd] at f0
          obtain ⟨rg, rcp, hrv, _, _, hrg, hrat, hrf⟩ := own_some M.out.ar.rcs (by omega)
          subst hrv
          have g0 := hrat _ _ (rmC_get rs z hzr).1
          have g1 := hrat _ _ (rmC_get rs z hzr).2
          have hfgw : fg < wr.heap.size := hfg
          have hrgw : rg < wr.heap.size := hrg
          have hne1 : ¬ fg = w2.heap.size := (M.out.ar.refF fg rfl).2.1
          have hne2 : ¬ w2.heap.size = fg := fun e => hne1 e.symm
          have hbb := M.out.blk.lt
          have b1 := M.out.blk.cell 1
          rw [show ([Value.int .i64 t, Value.slice va idx.length vc])[1]? = some (.slice va idx.length vc) from rfl] at b1
          have hir2 : (z : Int) < (refs.length : Int) := by omega
          have hir3 : (z : Int) < (rs.length : Int) := by omega
          have hfb : refs.length ≤ 99100 := by rw [HRL.out]; exact hrb
          have hst2 : st + 1 ≤ 1000 := by omega
          clear hfat hrat hff hrf hzl2 hzl3 hgd hz
          go_wp2_with (first
            | (go_at_call 30; refine (index_hit (own_src M3.out.ar.ref) (by omega) hzl1 HZ2.out HZ3.out).mono ?_; rintro e w4 ⟨rfl, h5⟩; have h5' := H3.out.trans h5; have M4 := Lib.hid (M3.out.up HLT.out h5); have H4 := Lib.hid h5'; have k0 := (h5'.cell (p := ⟨p, 0, none⟩) hpw).trans c0; have k1 := (h5'.cell (p := ⟨p, 1, none⟩) hpw).trans c1; have k2 := (h5'.cell (p := ⟨fg, z, none⟩) hfgw).trans f0; have k3 := (h5'.cell (p := ⟨rg, z * 2, none⟩) hrgw).trans g0; have k4 := (h5'.cell (p := ⟨rg, z * 2 + 1, none⟩) hrgw).trans g1; have k5 := ((At.new wr #[.string x.key, .slice xa x.row.length xc] 40 0 _ rfl).grow (K3.out.trans h5)).2; have k6 := ((At.new wr #[.string x.key, .slice xa x.row.length xc] 40 1 _ rfl).grow (K3.out.trans h5)).2; have hp4 := Nat.lt_of_lt_of_le hpw h5'.size; have hf4 := Nat.lt_of_lt_of_le hfgw h5'.size; have hr4 := Nat.lt_of_lt_of_le hrgw h5'.size; have hb4 := Nat.lt_of_lt_of_le hbb h5'.size; have hx4 : wr.heap.size < w4.heap.size := (by have := (K3.out.trans h5).size; simp at this; omega); clear h5 h5')
            | (go_at_call 29; refine (find_miss (M.out.ar.up ((Up.refl wr).alloc _)) HRL.out (by omega) HRW.out (SR.out.up ((Up.refl wr).alloc _)) hrow NH.out).mono ?_; rintro e w3 ⟨rfl, h4⟩; have K3 := Lib.hid h4; have h4' := ((Up.refl wr).alloc (.cells #[.string x.key, .slice xa x.row.length xc] 40)).trans h4; have H3 := Lib.hid h4'; have M3 := Lib.hid (M.out.up HLT.out h4'); have z1 := (h4'.cell (p := ⟨p, 1, none⟩) hpw).trans c1; have hp3 := Nat.lt_of_lt_of_le hpw h4'.size; clear h4 h4')
            | fail)
          obtain ⟨rg', rcp', hrv', _, _, _, _, hrf'⟩ := own_some M4.out.ar.rcs (by omega)
          simp only [Value.slice.injEq, Option.some.injEq, Addr.mk.injEq] at hrv'
          obtain ⟨⟨rfl, _, _⟩, _, rfl⟩ := hrv'
          have k7 := hrf' (z * 2)
          have k8 := hrf' (z * 2 + 1)
          clear hrf'
          go_region_law (fail)
          all_goals
            have M5 : Hid (FBM w ((w4.setCell ⟨rg, z * 2, none⟩ (.string x.key)).setCell ⟨rg, z * 2 + 1, none⟩ (.slice xa x.row.length xc)).drew p F A.earl t w2.heap.size bs cs (.slice ba bs.length bc) cv (.slice (some ⟨sg, 0, none⟩) qs.length sc) qs (rs.set z x) refs idx (.slice (some ⟨rg, 0, none⟩) rs.length rcp) (.slice (some ⟨fg, 0, none⟩) refs.length fcp) (.slice va idx.length vc)) := by
              unfold Hid
              have := (M4.out.setRec HLT.out hzr HMEM.out).up HLT.out ((Up.refl _).drew)
              rwa [HXV.out] at this
            obtain ⟨W5, hW5⟩ : ∃ W5, W5 = ((w4.setCell ⟨rg, z * 2, none⟩ (.string x.key)).setCell ⟨rg, z * 2 + 1, none⟩ (.slice xa x.row.length xc)).drew := ⟨_, rfl⟩
            rw [← hW5] at M5 ⊢
            clear hW5 k0 k1 k2 k3 k4 k5 k6 k7 k8
            obtain ⟨hp5, y1⟩ := (M5.out.ar.blk.at (i := 1) rfl)
            obtain ⟨fg', fcp', hfv', _, _, hfg5, hfat5, hff5⟩ := own_some M5.out.ar.ref (by omega)
            simp only [Value.slice.injEq, Option.some.injEq, Addr.mk.injEq] at hfv'
            obtain ⟨⟨rfl, _, _⟩, _, rfl⟩ := hfv'
            have y2 := hfat5 _ _ (icN_get refs z hzl1)
            rw [HGD.out] at y2
            have y3 := hff5 z
            have hbb5 := M5.out.blk.lt
            have y4 := M5.out.blk.cell 1
            rw [show ([Value.int .i64 t, Value.slice va idx.length vc])[1]? = some (.slice va idx.length vc) from rfl] at y4
            have y5 := M5.out.blk.free 1
            have M6 : Hid (FBM w (W5.setCell ⟨fg, z, none⟩ (.int .i64 1)) p F A.earl t w2.heap.size bs cs (.slice ba bs.length bc) cv (.slice (some ⟨sg, 0, none⟩) qs.length sc) qs (rs.set z x) (refs.set z 1) idx (.slice (some ⟨rg, 0, none⟩) rs.length rcp) (.slice (some ⟨fg, 0, none⟩) refs.length fcp) (.slice va idx.length vc)) := M5.out.setRef HLT.out hzl1 1
            clear hfat5 hff5
            go_wp2_with (first
              | (at_builtin; refine wpList_append_lies _ rfl (.tmp 97) (.tmp 99) 22 rfl w.heap.size 3 i1 (.int .i64 0) 1 8 Try.underlying22 hi1 hz3 hz4 hz5 rfl (by decide) (.slice va idx.length vc) idx.length (icN idx) rfl (own_up M6.out.own ((Up.refl _).alloc _)) ⟨W5.heap.size, 0, none⟩ 1 1 [.int .i64 z] rfl rfl (cell_int _ _ _ _ (by simp [World.setCell])) (by intro u hu; rw [List.mem_singleton.1 hu]; rfl) (by decide) (by unfold maxLen; omega) (by omega) (Nat.le_trans M6.out.chg.size ((Up.refl _).alloc _).size) _ rfl ?_; intro g2 c2 w5 hown2 hgrow2 hat2 hlt2; have q0 := fld_far M6.out.blk (by decide) (own_base' M6.out.own fun _ _ => Nat.zero_le _) ((Up.refl _).alloc _) hgrow2; have q1 := q0.cell 1; rw [show ([Value.int .i64 t, Value.slice va idx.length vc])[1]? = some (.slice va idx.length vc) from rfl] at q1; have q2 := q0.free 1; clear q0; have M7 := Lib.hid (M6.out.snoc HLT.out hown2 hgrow2 (hat2.imp id fun e => by simpa using e)); clear hown2 hgrow2 hat2)
              | fail)
            go_roundw
            case rel => exact ⟨j + 1, st + 1, by omega, rfl, by go_num, _, _, _, _, _, _, M7.out, by rw [List.map_set, ← HSJ.out]; exact FBN.out⟩
            case measure => simp [intOf]; omega
        · have FBN := Lib.hid (fb_grow FBH.out hlS HSI.out MIS.out)
          have NZ := Lib.hid hz
          obtain ⟨fa, fc, rfl, hfc1, hfc2, _⟩ := own_form M.out.ar.ref
          obtain ⟨rca, rcc, rfl, hrc1, hrc2, _⟩ := own_form M.out.ar.rcs
          have hfb : refs.length ≤ 99100 := by rw [HRL.out]; exact hrb
          have hst2 : st + 1 ≤ 1000 := by omega
          clear hz
          go_wp2_with (first
            | (go_at_call 30; refine (index_miss (own_src M3.out.ar.ref) (by omega) NZ.out).mono ?_; rintro e w4 ⟨rfl, h5⟩; have h5' := H3.out.trans h5; have M4 := Lib.hid (M3.out.up HLT.out h5); have H4 := Lib.hid h5'; have k0 := (h5'.cell (p := ⟨p, 0, none⟩) hpw).trans c0; have k1 := (h5'.cell (p := ⟨p, 1, none⟩) hpw).trans c1; have k5 := ((At.new wr #[.string x.key, .slice xa x.row.length xc] 40 0 _ rfl).grow (K3.out.trans h5)); have k6 := ((At.new wr #[.string x.key, .slice xa x.row.length xc] 40 1 _ rfl).grow (K3.out.trans h5)).2; have K5 := Lib.hid (K3.out.trans h5); have hp4 := Nat.lt_of_lt_of_le hpw h5'.size; clear h5 h5')
            | (go_at_call 29; refine (find_miss (M.out.ar.up ((Up.refl wr).alloc _)) HRL.out (by omega) HRW.out (SR.out.up ((Up.refl wr).alloc _)) hrow NH.out).mono ?_; rintro e w3 ⟨rfl, h4⟩; have K3 := Lib.hid h4; have h4' := ((Up.refl wr).alloc (.cells #[.string x.key, .slice xa x.row.length xc] 40)).trans h4; have H3 := Lib.hid h4'; have M3 := Lib.hid (M.out.up HLT.out h4'); have z1 := (h4'.cell (p := ⟨p, 1, none⟩) hpw).trans c1; have hp3 := Nat.lt_of_lt_of_le hpw h4'.size; clear h4 h4')
            | fail)
          have RCS := Lib.hid M4.out.ar.rcs
          have REF := Lib.hid M4.out.ar.ref
          have hrlt : Hid (∀ k, (Value.slice rca rs.length rcc).ownBlock = some k → k < w4.heap.size) := own_lt RCS.out
          refine region_split (fun a a' W => ∃ (v68 : Value) (g2 rcc2 : Nat) (v74 : Value) (g3 fc2 : Nat), (FBM w W p F A.earl t w2.heap.size bs cs (.slice ba bs.length bc) cv (.slice (some ⟨sg, 0, none⟩) qs.length sc) qs (rs ++ [⟨ByteArray.empty, .slice none 0 0, []⟩]) (refs ++ [0]) idx (.slice (some ⟨g2, 0, none⟩) (rs.length + 1) rcc2) (.slice (some ⟨g3, 0, none⟩) (refs.length + 1) fc2) (.slice va idx.length vc) ∧
            Chg (fun j => (Value.slice fa refs.length fc).ownBlock = some j ∨ (Value.slice rca rs.length rcc).ownBlock = some j ∨ j = p) w4 W) ∧
            a' = ((((((((((((((((((a.put (some 61) (.pointer (some ⟨p, 0, none⟩))).put (some 62) (.pointer (some ⟨p, 0, none⟩))).put (some 63) (.pointer (some ⟨p, 0, none⟩))).put (some 64) (.pointer (some ⟨p, 0, none⟩))).put (some 65) (.pointer (some ⟨p, 0, none⟩))).put (some 66) (.slice rca rs.length rcc)).put (some 67) (.agg #[.string ByteArray.empty, .slice none 0 0])).put (some 68) v68).put (some 69) (.slice (some ⟨g2, 0, none⟩) (rs.length + 1) rcc2)).put (some 70) (.pointer (some ⟨p, 0, none⟩))).put (some 71) (.pointer (some ⟨p, 0, none⟩))).put (some 72) (.pointer (some ⟨p, 1, none⟩))).put (some 73) (.slice fa refs.length fc)).put (some 74) v74).put (some 75) (.slice (some ⟨g3, 0, none⟩) (refs.length + 1) fc2)).put (some 76) (.pointer (some ⟨p, 0, none⟩))).put (some 77) (.pointer (some ⟨p, 0, none⟩))).put (some 78) (.pointer (some ⟨p, 0, none⟩))).put (some 79) (.pointer (some ⟨p, 1, none⟩))) ?_ ?_
          · simp only [Act.put, List.setIfInBounds_toArray, List.set_cons_zero, List.set_cons_succ]
            go_region_law (first
            | (refine step_append_lies _ rfl (.tmp 66) (.tmp 68) 36 rfl 0 40 i0 (.agg #[.string ByteArray.empty, .slice none 0 0]) 2 40 Try.underlying36 hi0 hz0 hz1 hz2 rfl (by decide) (.slice rca rs.length rcc) rs.length (rmC rs) (by simp [Act.eval]) (own_up RCS.out ((Up.refl w4).alloc _).drew) ⟨w4.heap.size, 0, none⟩ 1 1 [.string ByteArray.empty, .slice none 0 0] (by simp [Act.eval]) rfl (fun j u hu => cells_new w4 #[.string ByteArray.empty, .slice none 0 0] 40 j u hu) (by intro u hu; simp at hu; rcases hu with rfl | rfl <;> rfl) (by omega) (by unfold maxLen; omega) (by omega) (Nat.zero_le _) _ rfl ?_
               intro g2 c2 w5 hown2 hgrow2 hat2 hlt2
               have AA : True := trivial
               have U1 := up_hid hgrow2 ((Up.refl w4).alloc _).drew
               have PB := Lib.hid (fld_far M4.out.ar.blk (by decide) RCS.out ((Up.refl w4).alloc _).drew hgrow2)
               have REF2 := Lib.hid (own_far (own_up REF.out ((Up.refl w4).alloc _).drew) (own_up RCS.out ((Up.refl w4).alloc _).drew) (by decide) hgrow2)
               have q1 := PB.out.cell 1
               have hp5 := PB.out.lt
               have hat2 : Hid ((Value.slice rca rs.length rcc).ownBlock = some g2 ∨ w4.heap.size ≤ g2) := hat2.imp id fun e => (by first | omega | (simp at e; omega))
               have hown2 := Lib.hid hown2
               have hgrow2 := Lib.hid hgrow2)
            | (refine step_append_lies _ rfl (.tmp 66) (.tmp 68) 36 rfl 0 40 i0 (.agg #[.string ByteArray.empty, .slice none 0 0]) 2 40 Try.underlying36 hi0 hz0 hz1 hz2 rfl (by decide) (.slice rca rs.length rcc) rs.length (rmC rs) (by simp [Act.eval]) (own_up RCS.out (((Up.refl w4).alloc _).alloc _).drew) ⟨w4.heap.size, 0, none⟩ 1 1 [.string ByteArray.empty, .slice none 0 0] (by simp [Act.eval]) rfl (fun j u hu => cells_B w4 #[.string ByteArray.empty, .slice none 0 0] 40 _ j u hu) (by intro u hu; simp at hu; rcases hu with rfl | rfl <;> rfl) (by omega) (by unfold maxLen; omega) (by omega) (Nat.zero_le _) _ rfl ?_
               intro g2 c2 w5 hown2 hgrow2 hat2 hlt2
               have AB : True := trivial
               have U1 := up_hid hgrow2 (((Up.refl w4).alloc _).alloc _).drew
               have PB := Lib.hid (fld_far M4.out.ar.blk (by decide) RCS.out (((Up.refl w4).alloc _).alloc _).drew hgrow2)
               have REF2 := Lib.hid (own_far (own_up REF.out (((Up.refl w4).alloc _).alloc _).drew) (own_up RCS.out (((Up.refl w4).alloc _).alloc _).drew) (by decide) hgrow2)
               have q1 := PB.out.cell 1
               have hp5 := PB.out.lt
               have TB : Hid (At w5 (w4.heap.size + 1) 0 (.int .i64 0)) := ⟨by have := hgrow2.size; simp at this; omega, (hgrow2.cell_far ⟨w4.heap.size + 1, 0, none⟩ (by simp <;> omega) (fun e => by have := hrlt.out (w4.heap.size + 1) e.symm; omega)).trans (at_B2 w4 _ (.int .i64 0) 3)⟩
               have hat2 : Hid ((Value.slice rca rs.length rcc).ownBlock = some g2 ∨ w4.heap.size ≤ g2) := hat2.imp id fun e => (by first | omega | (simp at e; omega))
               have hown2 := Lib.hid hown2
               have hgrow2 := Lib.hid hgrow2)
            | (refine step_append_lies _ rfl (.tmp 66) (.tmp 68) 36 rfl 0 40 i0 (.agg #[.string ByteArray.empty, .slice none 0 0]) 2 40 Try.underlying36 hi0 hz0 hz1 hz2 rfl (by decide) (.slice rca rs.length rcc) rs.length (rmC rs) (by simp [Act.eval]) (own_up RCS.out (((Up.refl w4).alloc _).alloc _).drew) ⟨w4.heap.size + 1, 0, none⟩ 1 1 [.string ByteArray.empty, .slice none 0 0] (by simp [Act.eval]) rfl (fun j u hu => cells_C w4 _ #[.string ByteArray.empty, .slice none 0 0] 40 j u hu) (by intro u hu; simp at hu; rcases hu with rfl | rfl <;> rfl) (by omega) (by unfold maxLen; omega) (by omega) (Nat.zero_le _) _ rfl ?_
               intro g2 c2 w5 hown2 hgrow2 hat2 hlt2
               have AC : True := trivial
               have U1 := up_hid hgrow2 (((Up.refl w4).alloc _).alloc _).drew
               have PB := Lib.hid (fld_far M4.out.ar.blk (by decide) RCS.out (((Up.refl w4).alloc _).alloc _).drew hgrow2)
               have REF2 := Lib.hid (own_far (own_up REF.out (((Up.refl w4).alloc _).alloc _).drew) (own_up RCS.out (((Up.refl w4).alloc _).alloc _).drew) (by decide) hgrow2)
               have q1 := PB.out.cell 1
               have hp5 := PB.out.lt
               have TB : Hid (At w5 (w4.heap.size) 0 (.int .i64 0)) := ⟨by have := hgrow2.size; simp at this; omega, (hgrow2.cell_far ⟨w4.heap.size, 0, none⟩ (by simp <;> omega) (fun e => by have := hrlt.out (w4.heap.size) e.symm; omega)).trans (at_C2 w4 (_) (.int .i64 0) 3)⟩
               have hat2 : Hid ((Value.slice rca rs.length rcc).ownBlock = some g2 ∨ w4.heap.size ≤ g2) := hat2.imp id fun e => (by first | omega | (simp at e; omega))
               have hown2 := Lib.hid hown2
               have hgrow2 := Lib.hid hgrow2)
            | (have := AA
               refine step_append_lies _ rfl (.tmp 73) (.tmp 74) 22 rfl 0 3 i1 (.int .i64 0) 1 8 Try.underlying22 hi1 hz3 hz4 hz5 rfl (by decide) (.slice fa refs.length fc) refs.length (icN refs) (by simp [Act.eval]) (own_up REF2.out ((Up.refl w5).alloc _)) ⟨w5.heap.size, 0, none⟩ 1 1 [.int .i64 0] (by simp [Act.eval]) rfl (fun j u hu => cells_new w5 #[.int .i64 0] 3 j u hu) (by intro u hu; rw [List.mem_singleton.1 hu]; rfl) (by decide) (by unfold maxLen; omega) (by omega) (Nat.zero_le _) _ rfl ?_
               intro g3 c3 w6 hown3 hgrow3 hat3 hlt3
               have PB6 := fld_far PB.out (by decide) REF2.out ((Up.refl w5).alloc _) hgrow3
               have r0 := PB6.cell 0
               have r1 := PB6.cell 1
               have s0 := PB6.free 0
               have s1 := PB6.free 1
               have hp6 := PB6.lt
               have G6 := Lib.hid (FBM.grow M4.out HLT.out U1.out hown2.out hgrow2.out hat2.out ((Up.refl w5).alloc _) hown3 hgrow3 (hat3.imp id fun e => (by first | omega | (simp at e; omega))))
               clear hown3 hgrow3 hat3 PB6)
            | (have := AB
               refine step_append_lies _ rfl (.tmp 73) (.tmp 74) 22 rfl 0 3 i1 (.int .i64 0) 1 8 Try.underlying22 hi1 hz3 hz4 hz5 rfl (by decide) (.slice fa refs.length fc) refs.length (icN refs) (by simp [Act.eval]) (own_up REF2.out (Up.refl w5)) ⟨w4.heap.size + 1, 0, none⟩ 1 1 [.int .i64 0] (by simp [Act.eval]) rfl (at_one TB.out) (by intro u hu; rw [List.mem_singleton.1 hu]; rfl) (by decide) (by unfold maxLen; omega) (by omega) (Nat.zero_le _) _ rfl ?_
               intro g3 c3 w6 hown3 hgrow3 hat3 hlt3
               have PB6 := fld_far PB.out (by decide) REF2.out (Up.refl w5) hgrow3
               have r0 := PB6.cell 0
               have r1 := PB6.cell 1
               have s0 := PB6.free 0
               have s1 := PB6.free 1
               have hp6 := PB6.lt
               have G6 := Lib.hid (FBM.grow M4.out HLT.out U1.out hown2.out hgrow2.out hat2.out (Up.refl w5) hown3 hgrow3 (hat3.imp id fun e => (by first | omega | (simp at e; omega))))
               clear hown3 hgrow3 hat3 PB6)
            | (have := AC
               refine step_append_lies _ rfl (.tmp 73) (.tmp 74) 22 rfl 0 3 i1 (.int .i64 0) 1 8 Try.underlying22 hi1 hz3 hz4 hz5 rfl (by decide) (.slice fa refs.length fc) refs.length (icN refs) (by simp [Act.eval]) (own_up REF2.out (Up.refl w5)) ⟨w4.heap.size, 0, none⟩ 1 1 [.int .i64 0] (by simp [Act.eval]) rfl (at_one TB.out) (by intro u hu; rw [List.mem_singleton.1 hu]; rfl) (by decide) (by unfold maxLen; omega) (by omega) (Nat.zero_le _) _ rfl ?_
               intro g3 c3 w6 hown3 hgrow3 hat3 hlt3
               have PB6 := fld_far PB.out (by decide) REF2.out (Up.refl w5) hgrow3
               have r0 := PB6.cell 0
               have r1 := PB6.cell 1
               have s0 := PB6.free 0
               have s1 := PB6.free 1
               have hp6 := PB6.lt
               have G6 := Lib.hid (FBM.grow M4.out HLT.out U1.out hown2.out hgrow2.out hat2.out (Up.refl w5) hown3 hgrow3 (hat3.imp id fun e => (by first | omega | (simp at e; omega))))
               clear hown3 hgrow3 hat3 PB6)
            | fail)
            all_goals exact OnNormal.of ⟨_, _, _, _, _, _, G6.out, rfl⟩
          simp only [Act.put, List.setIfInBounds_toArray, List.set_cons_zero, List.set_cons_succ]
          rintro a' W4 ⟨v68, g2, rcp, v74, g3, fcp, hG6, rfl⟩
          have C6 := Lib.hid hG6.2
          have M0 := hG6.1
          have hRS : Hid (∃ RS, RS = rs ++ [(⟨ByteArray.empty, .slice none 0 0, []⟩ : RM)]) := ⟨_, rfl⟩
          obtain ⟨RS, hRS⟩ := hRS.out
          obtain ⟨RF, hRF⟩ : ∃ RF, RF = refs ++ [0] := ⟨_, rfl⟩
          have hzr0 : refs.length = rs.length := HRL.out
          have hRSl : rs.length + 1 = RS.length := by rw [hRS]; simp
          have hRFl : refs.length + 1 = RF.length := by rw [hRF]; simp
          have hrsz : ∃ h : refs.length < RS.length, RS[refs.length] = (⟨ByteArray.empty, .slice none 0 0, []⟩ : RM) := by subst hRS; exact ⟨by simp [hzr0], by simp [hzr0]⟩
          obtain ⟨hzr, hrsz⟩ := hrsz
          have hrfz : ∃ h : refs.length < RF.length, RF[refs.length] = 0 := by subst hRF; exact ⟨by simp, by simp⟩
          obtain ⟨hzl1, hgd⟩ := hrfz
          have HSET : Hid ((RS.set refs.length x).map erR = rs.map erR ++ [S[j]]) := by unfold Hid; rw [HSJ.out, hRS, hzr0]; simp
          have HSET2 : Hid (RF.set refs.length 1 = refs ++ [1]) := by unfold Hid; rw [hRF]; simp
          have hfb2 : RF.length ≤ 99101 := by omega
          rw [← hRS, ← hRF, hRSl, hRFl] at M0
          have M4 := Lib.hid M0
          have FBN2 : Hid (FB A S (j + 1) (rs.map erR ++ [S[j]]) (refs ++ [1]) (idx ++ [refs.length]) (st + 1)) := by
            have := FBN.out
            rwa [show (rs.map erR).length = refs.length by rw [List.length_map, hzr0]] at this
          have HGD := Lib.hid hgd
          obtain ⟨fg', fcp', hfv', _, _, hfg, hfat, hff⟩ := own_some M4.out.ar.ref (by omega)
          simp only [Value.slice.injEq, Option.some.injEq, Addr.mk.injEq, and_true, true_and] at hfv'
          obtain ⟨rfl, rfl⟩ := hfv'
          obtain ⟨rg', rcp', hrv', _, _, hrg, hrat, hrf⟩ := own_some M4.out.ar.rcs (by omega)
          simp only [Value.slice.injEq, Option.some.injEq, Addr.mk.injEq, and_true, true_and] at hrv'
          obtain ⟨rfl, rfl⟩ := hrv'
          have f0 := hfat _ _ (icN_get RF refs.length hzl1)
          rw [hgd] at f0
          have k3 := hrat _ _ (rmC_get RS refs.length hzr).1
          have k4 := hrat _ _ (rmC_get RS refs.length hzr).2
          rw [hrsz] at k3 k4
          have k7 := hrf (refs.length * 2)
          have k8 := hrf (refs.length * 2 + 1)
          obtain ⟨hp6, k0'⟩ := (M4.out.ar.blk.at (i := 0) rfl)
          obtain ⟨_, k1'⟩ := (M4.out.ar.blk.at (i := 1) rfl)
          have nS : ¬ ((Value.slice fa refs.length fc).ownBlock = some wr.heap.size ∨ (Value.slice rca rs.length rcc).ownBlock = some wr.heap.size ∨ wr.heap.size = p) := fun e => by
            rcases e with e | e | e
            · have := own_lt M.out.ar.ref _ e; omega
            · have := own_lt M.out.ar.rcs _ e; omega
            · omega
          obtain ⟨hx4, k5'⟩ := k5.chg C6.out nS
          obtain ⟨_, k6'⟩ := (At.chg ⟨k5.1, k6⟩ C6.out nS)
          have hir2 : (refs.length : Int) < (RF.length : Int) := by omega
          have hir3 : (refs.length : Int) < (RS.length : Int) := by omega
          have hne1 : ¬ g3 = w2.heap.size := (M4.out.ar.refF g3 rfl).2.1
          have hne2 : ¬ w2.heap.size = g3 := fun e => hne1 e.symm
          have hst3 : st + 1 ≤ 1000 := hst2
          clear hfat hrat hff hrf M0 hG6 hgd hrsz nS k0 k1 k5 k6 hp4 hRSl hRFl hzr0 hRS hRF
          go_wp2
          go_region_law (fail)
          all_goals
            have M5 : Hid (FBM w ((W4.setCell ⟨g2, refs.length * 2, none⟩ (.string x.key)).setCell ⟨g2, refs.length * 2 + 1, none⟩ (.slice xa x.row.length xc)).drew p F A.earl t w2.heap.size bs cs (.slice ba bs.length bc) cv (.slice (some ⟨sg, 0, none⟩) qs.length sc) qs (RS.set refs.length x) RF idx (.slice (some ⟨g2, 0, none⟩) RS.length rcp) (.slice (some ⟨g3, 0, none⟩) RF.length fcp) (.slice va idx.length vc)) := by
              unfold Hid
              have := (M4.out.setRec HLT.out hzr HMEM.out).up HLT.out ((Up.refl _).drew)
              rwa [HXV.out] at this
            obtain ⟨W5, hW5⟩ : ∃ W5, W5 = ((W4.setCell ⟨g2, refs.length * 2, none⟩ (.string x.key)).setCell ⟨g2, refs.length * 2 + 1, none⟩ (.slice xa x.row.length xc)).drew := ⟨_, rfl⟩
            rw [← hW5] at M5 ⊢
            clear hW5 k0' k1' f0 k3 k4 k5' k6' k7 k8
            obtain ⟨hp5, y1⟩ := (M5.out.ar.blk.at (i := 1) rfl)
            obtain ⟨fg', fcp', hfv', _, _, hfg5, hfat5, hff5⟩ := own_some M5.out.ar.ref (by omega)
            simp only [Value.slice.injEq, Option.some.injEq, Addr.mk.injEq] at hfv'
            obtain ⟨⟨rfl, _, _⟩, _, rfl⟩ := hfv'
            have y2 := hfat5 _ _ (icN_get RF refs.length hzl1)
            rw [HGD.out] at y2
            have y3 := hff5 refs.length
            have hbb5 := M5.out.blk.lt
            have y4 := M5.out.blk.cell 1
            rw [show ([Value.int .i64 t, Value.slice va idx.length vc])[1]? = some (.slice va idx.length vc) from rfl] at y4
            have y5 := M5.out.blk.free 1
            have M6 : Hid (FBM w (W5.setCell ⟨g3, refs.length, none⟩ (.int .i64 1)) p F A.earl t w2.heap.size bs cs (.slice ba bs.length bc) cv (.slice (some ⟨sg, 0, none⟩) qs.length sc) qs (RS.set refs.length x) (RF.set refs.length 1) idx (.slice (some ⟨g2, 0, none⟩) RS.length rcp) (.slice (some ⟨g3, 0, none⟩) RF.length fcp) (.slice va idx.length vc)) := M5.out.setRef HLT.out hzl1 1
            clear hfat5 hff5
            go_wp2_with (first
              | (at_builtin; refine wpList_append_lies _ rfl (.tmp 97) (.tmp 99) 22 rfl w.heap.size 3 i1 (.int .i64 0) 1 8 Try.underlying22 hi1 hz3 hz4 hz5 rfl (by decide) (.slice va idx.length vc) idx.length (icN idx) rfl (own_up M6.out.own ((Up.refl _).alloc _)) ⟨W5.heap.size, 0, none⟩ 1 1 [.int .i64 refs.length] rfl rfl (cell_int _ _ _ _ (by simp [World.setCell])) (by intro u hu; rw [List.mem_singleton.1 hu]; rfl) (by decide) (by unfold maxLen; omega) (by omega) (Nat.le_trans M6.out.chg.size ((Up.refl _).alloc _).size) _ rfl ?_; intro g9 c9 w5 hown2 hgrow2 hat2 hlt2; have q0 := fld_far M6.out.blk (by decide) (own_base' M6.out.own fun _ _ => Nat.zero_le _) ((Up.refl _).alloc _) hgrow2; have q1 := q0.cell 1; rw [show ([Value.int .i64 t, Value.slice va idx.length vc])[1]? = some (.slice va idx.length vc) from rfl] at q1; have q2 := q0.free 1; clear q0; have M7 := Lib.hid (M6.out.snoc HLT.out hown2 hgrow2 (hat2.imp id fun e => by simpa using e)); clear hown2 hgrow2 hat2)
              | fail)
            go_roundw
            case rel => exact ⟨j + 1, st + 1, by omega, rfl, by go_num, _, _, _, _, _, _, M7.out, by rw [HSET.out, HSET2.out]; exact FBN2.out⟩
            case measure => simp [intOf]; omega
    · obtain rfl : j = qs.length := by omega
      have FBE : Hid (FB A S S.length (rs.map erR) refs idx st) := by
        have : S.length = qs.length := by rw [← Q1.out, List.length_map]
        rw [this]; exact FBH.out
      have PB := M.out.ar.blk
      have z2 := (PB.at (i := 2) rfl).2
      have hpw := PB.lt
      have b0 := (M.out.blk.at (i := 0) rfl).2
      have b1 := (M.out.blk.at (i := 1) rfl).2
      have hbb := M.out.blk.lt
      have BAK := Lib.hid M.out.ar.bak
      have hb3 : bs.length < 20 := hb20
      clear hM hF HD PB hrl
      go_wp2
      refine region_split (fun a a' W => ∃ (v109 v : Value), Hid (ArP W p (Fx F w W) rs refs (bs ++ [⟨t, .slice va idx.length vc, idx⟩]) cs A.earl rv fv v cv ∧ Chg F w W) ∧ a' = ((((((((((a.put (some 103) (.pointer (some ⟨p, 0, none⟩))).put (some 104) (.pointer (some ⟨p, 0, none⟩))).put (some 105) (.pointer (some ⟨p, 0, none⟩))).put (some 106) (.pointer (some ⟨p, 2, none⟩))).put (some 107) (.slice ba bs.length bc)).put (some 108) (.agg #[.int .i64 t, .slice va idx.length vc])).put (some 109) v109).put (some 110) v).put (some 111) (.pointer (some ⟨p, 0, none⟩))).put (some 112) (.pointer (some ⟨p, 2, none⟩)))) ?_ ?_
      · simp only [Act.put, List.setIfInBounds_toArray, List.set_cons_zero, List.set_cons_succ]
        go_region_law (first
          | (refine step_append_lies _ rfl (.tmp 107) (.tmp 109) 56 rfl 0 55 iB (.agg #[.int .i64 0, .slice none 0 0]) 2 32 Try.underlying56 hiB hzB0 hzB1 hzB2 rfl (by decide) (.slice ba bs.length bc) bs.length (bmC bs) (by simp [Act.eval]) (own_up BAK.out ((Up.refl wr).alloc _).drew) ⟨wr.heap.size, 0, none⟩ 1 1 [.int .i64 t, .slice va idx.length vc] (by simp [Act.eval]) rfl (fun j u hu => cells_new wr #[.int .i64 t, .slice va idx.length vc] 55 j u hu) (by intro u hu; simp at hu; rcases hu with rfl | rfl <;> rfl) (by omega) (by unfold maxLen; omega) (by omega) (Nat.zero_le _) _ rfl ?_
             intro g9 c9 w5 hown9 hgrow9 hat9 hlt9
             have PB5 := fld_far M.out.ar.blk (by decide) BAK.out ((Up.refl wr).alloc _).drew hgrow9
             have q2 := (PB5.at (i := 2) rfl).2
             have q3 := PB5.free 2
             have hp5 := PB5.lt
             have FIN := Lib.hid (FBM.done M.out HLT.out ((Up.refl wr).alloc _).drew hown9 hgrow9 hat9 (((Up.refl wr).alloc _).drew).size)
             clear hown9 hgrow9 hat9 PB5)
          | fail)
        all_goals exact OnNormal.of ⟨_, _, FIN.out, rfl⟩
      · simp only [Act.put, List.setIfInBounds_toArray, List.set_cons_zero, List.set_cons_succ]
        rintro a' W5 ⟨v109, v, hf, rfl⟩
        have HF := Lib.hid hf.out
        clear hf
        go_wp2
        go_ret2
        refine ⟨⟨rs.map erR, refs, A.baks ++ [(t, idx)], A.chgs, A.earl⟩, st, idx, rfl, ⟨⟨rs, bs ++ [⟨t, .slice va idx.length vc, idx⟩], cs, rv, fv, v, cv, HF.out.1, rfl, ?_, HE.out.2.2.1, aok_full HE.out.2.2.2 FBE.out INFO.out.1 h4 hA3.out h6⟩, HF.out.2⟩, FBE.out, rfl, rfl, rfl⟩
        rw [List.map_append, HE.out.2.1]
        rfl
end Go.Proofs.Ytdaehidbeleblaa.Bk
