/- The write-ahead log: Crash. -/
import Derived.Test.YtmaeeidaegigcaaWli
import Derived.Deep.CutBlock
namespace Go.Proofs.Ytmaeeidaegigcaa.Wl
open Go Go.RowKit Hp
open Dk (Dsk DiskR bc DOk Bytes)
set_option linter.unusedVariables false

/-- The ends of the records that the data hold. -/
def parseE (dat : List Int) : Nat → Nat → List Nat
  | 0, _ => []
  | k + 1, e =>
    if e + 2 ≤ dat.length ∧ e + 2 + (dat.getD e 0 * 256 + dat.getD (e + 1) 0).toNat ≤ dat.length then
      (e + 2 + (dat.getD e 0 * 256 + dat.getD (e + 1) 0).toNat) :: parseE dat k (e + 2 + (dat.getD e 0 * 256 + dat.getD (e + 1) 0).toNat)
    else []
theorem accB_len (s : List Int) (st b : Nat) (acc : List Int) (hu : s.getD 8 0 ≤ 20) : (accB s st b acc).length ≤ acc.length + 20 := by
  unfold accB
  split
  · rw [List.length_append, List.length_drop, List.length_take]; omega
  · omega
theorem rdB_len (d : Dsk) (bl st : Nat) : ∀ (k b : Nat) (inc : Int) (acc : List Int), (rdB d bl st k b inc acc).length ≤ acc.length + 20 * k
  | 0, _, _, _ => Nat.le_add_right _ _
  | k + 1, b, inc, acc => by
    by_cases h : un32 (d.read (2 + b % bl)) ≠ (b : Int) ∨ un32 ((d.read (2 + b % bl)).drop 4) < inc ∨ 20 < (d.read (2 + b % bl)).getD 8 0
    · rw [rdB_stop _ _ _ _ _ _ _ h]; omega
    · rw [rdB_go _ _ _ _ _ _ _ h]
      have h1 := accB_len (d.read (2 + b % bl)) st b acc (by omega)
      split
      · omega
      · have := rdB_len d bl st k (b + 1) (un32 ((d.read (2 + b % bl)).drop 4)) (accB (d.read (2 + b % bl)) st b acc)
        omega
theorem accB_isB (s : List Int) (st b : Nat) (acc : List Int) (hs : IsB s) (ha : IsB acc) : IsB (accB s st b acc) := by
  unfold accB
  split
  · intro x hx
    rcases List.mem_append.1 hx with h | h
    · exact ha x h
    · exact hs x (List.mem_of_mem_take (List.mem_of_mem_drop h))
  · exact ha
theorem rdB_isB (d : Dsk) (bl st : Nat) (hd : ∀ b, IsB (d.read (2 + b % bl))) : ∀ (k b : Nat) (inc : Int) (acc : List Int), IsB acc → IsB (rdB d bl st k b inc acc)
  | 0, _, _, _, ha => ha
  | k + 1, b, inc, acc, ha => by
    by_cases h : un32 (d.read (2 + b % bl)) ≠ (b : Int) ∨ un32 ((d.read (2 + b % bl)).drop 4) < inc ∨ 20 < (d.read (2 + b % bl)).getD 8 0
    · rw [rdB_stop _ _ _ _ _ _ _ h]; exact ha
    · rw [rdB_go _ _ _ _ _ _ _ h]
      have h1 := accB_isB (d.read (2 + b % bl)) st b acc (hd b) ha
      split
      · exact h1
      · exact rdB_isB d bl st hd k (b + 1) _ _ h1
theorem un32_nn (l : List Int) (h : IsB l) : 0 ≤ un32 l := by
  have hg : ∀ i, 0 ≤ l.getD i 0 := fun i => by
    rw [List.getD_eq_getElem?_getD]
    cases hl : l[i]? with
    | none => exact Int.le_refl 0
    | some x => exact (h x (List.mem_of_getElem? hl)).1
  have h0 := hg 0
  have h1 := hg 1
  have h2 := hg 2
  have h3 := hg 3
  unfold un32
  omega
theorem own_len {w : World} {b s n m : Nat} {E : TypeId} {v : Value} {xs : List Value} (h : w.ownsRow b E s v n xs) (e : n = m) : w.ownsRow b E s v m xs := e ▸ h
theorem LogP.join2 {w w1 w2 : World} {p q : Nat} {F G : Nat → Prop} {L : Log} {dv ev : Value} (h : LogP w2 p (Fx F w w1) L q G dv ev ∧ Chg (Fx F w w1) w1 w2) (c : Chg F w w1) (hl : ∀ k, F k → k < w.heap.size) : LogP w2 p (Fx F w w2) L q G dv ev ∧ Chg F w w2 := by
  have z1 := c.size
  have z2 := h.2.size
  have c2 : Chg F w w2 := c.trans h.2 fun k hk e => e.elim id fun e => by omega
  refine ⟨h.1.mono (fun k hk => ?_) (fx_lt hl c2.size), c2⟩
  rcases hk with e | e
  · exact .inl e
  · exact .inr ⟨e.1, by omega⟩
def hdrOf (d : Dsk) : List Int := if un32 (d.read 0) < un32 (d.read 1) then d.read 1 else d.read 0
/-- As the header says. -/
def Log.back (L : Log) (sv : List Bool) : Log :=
  ⟨L.dsk.crash sv, (un32 (hdrOf (L.dsk.crash sv))).toNat, (un32 ((hdrOf (L.dsk.crash sv)).drop 8)).toNat, (un32 ((hdrOf (L.dsk.crash sv)).drop 4)).toNat, [], []⟩
def Log.parsed (L : Log) : Log := { L with inc := L.inc + 1, dat := L.rd.take ((parseE L.rd L.rd.length 0).getLast?.getD 0), ends := parseE L.rd L.rd.length 0 }
def Log.root (L : Log) : Log := if L.en / 20 - L.st / 20 + 1 ≤ L.bl then { L.wb (L.en / 20) with dsk := (L.wb (L.en / 20)).dsk.flush } else L
def Log.crash (L : Log) (sv : List Bool) : Log := (L.back sv).parsed.head.root
set_option maxRecDepth 100000 in
set_option maxHeartbeats 4000000 in
theorem crash_any (p : Nat) (L : Log) (F : Nat → Prop) (sv : List Bool) (vs : Value) (w : World) (h : LogR w p L F) (hvs : Bools w vs sv) (hvF : sv ≠ [] → ∀ a n c, vs = .slice (some a) n c → ¬ F a.block)
    (hb : 3 ≤ L.dsk.dur.length) (hb2 : L.dsk.dur.length ≤ 256) (hB : ∀ s, s < L.dsk.dur.length → IsB ((L.dsk.crash sv).read s))
    (hst : un32 ((hdrOf (L.dsk.crash sv)).drop 4) ≤ 10000000) (hhd : un32 (hdrOf (L.dsk.crash sv)) + 1 < 4294967296) (hin : un32 ((hdrOf (L.dsk.crash sv)).drop 8) + 1 < 4294967296) :
    Calls Try.prog 28 #[.pointer (some ⟨p, 0, none⟩), vs] w fun e w' => e = .returned (.int .i64 0) ∧ LogPost p (L.crash sv) F w w' := by
  have HLT := Lib.hid h.lt
  obtain ⟨q, G, dv, ev, hP⟩ := h
  have c0 := (hP.blk.at (i := 0) rfl).2
  have hpl := hP.blk.lt
  have HCR : Hid (Calls Try.prog 20 #[.pointer (some ⟨q, 0, none⟩), vs] w fun e w' => e = .returned (.tuple #[]) ∧ LogP w' p (Fx F w w') { L with dsk := L.dsk.crash sv } q (Fx G w w') dv ev ∧ Chg F w w') :=
    (Dk.crash_any q _ _ sv vs w hP.dk hvs fun hs a n c e g => hvF hs a n c e (hP.gf _ g)).mono fun e w' ⟨h1, h2, h3⟩ => ⟨h1, (hP.disk h2 h3).1, (hP.disk h2 h3).2⟩
  have hdl : (L.dsk.crash sv).dur.length = L.dsk.dur.length := Dk.applyW_len _ _
  have hok := hP.dk.ok.crash sv
  obtain ⟨d, hd⟩ : ∃ d, d = L.dsk.crash sv := ⟨_, rfl⟩
  rw [← hd] at hdl hok hB hst hhd hin HCR
  have HD := Lib.hid hd
  rw [← hdl] at hb hb2 hB
  have hpd : d.pend = [] := by rw [hd]; rfl
  clear hd hdl
  have HOK := Lib.hid hok
  have HBB := Lib.hid hB
  have HPD := Lib.hid hpd
  clear hP hok hB hpd
  have HRD : Hid (∀ s W G', s < d.dur.length → DiskR W q d G' → Calls Try.prog 17 #[.pointer (some ⟨q, 0, none⟩), .int .i64 ((s : Nat) : Int)] W fun e w' => ∃ g c, e = .returned (.tuple #[.slice (some ⟨g, 0, none⟩) 32 c, .int .i64 0]) ∧ 32 ≤ c ∧ c ≤ 9223372036854775807 ∧ Hid (w'.ownsRow W.heap.size 5 1 (.slice (some ⟨g, 0, none⟩) 32 c) 32 (bc (d.read s))) ∧ Up W w') := by
    intro s W G' hs hu
    refine (Dk.read_any q _ _ _ _ hu hs (by omega) (by rw [HPD.out]; decide)).mono ?_
    rintro e w' ⟨v, rfl, h1, h2⟩
    obtain ⟨g, c, rfl, hc1, hc2, _, _, _⟩ := own_some h1 (by decide)
    exact ⟨g, c, rfl, hc1, hc2, h1, h2⟩
  have H32 : Hid (∀ W g c s, s < d.dur.length → Hid (W.ownsRow 0 5 1 (.slice (some ⟨g, 0, none⟩) 32 c) 32 (bc (d.read s))) → Calls Try.prog 49 #[.slice (some ⟨g, 0, none⟩) 32 c] W fun e w' => e = .returned (.int .i64 (un32 (d.read s))) ∧ Up W w') := by
    intro W g c s hs hO
    exact at32_any _ _ _ W (own_src hO.out) (by rw [Dk.read_len HOK.out hs]; decide) (HBB.out s hs)
  have hd0 : 0 < d.dur.length := by omega
  have hd1 : 1 < d.dur.length := by omega
  go_enter Try.func28, Try.ntmps28
  go_upto_if 38 with (first
    | (go_at_call 49; refine (H32.out _ _ _ _ hd0 O0').mono ?_; rintro e w5 ⟨rfl, h5⟩; have U5 := Lib.hid (U4.out.trans h5); have W5 := Lib.hid h5; have V5 := Lib.hid (V4.out.trans h5); clear h5)
    | (go_at_call 49; refine (H32.out _ _ _ _ hd1 O1).mono ?_; rintro e w4 ⟨rfl, h4⟩; have O0' : Hid (w4.ownsRow 0 5 1 (.slice (some ⟨g0, 0, none⟩) 32 ca0) 32 (bc (d.read 0))) := own_up O0.out (V3.out.trans h4); have U4 := Lib.hid (U3.out.trans h4); have V4 := Lib.hid h4; clear h4)
    | (go_at_call 17; refine (HRD.out 1 _ _ hd1 (P1.out.dk.up U2.out)).mono ?_; rintro e w3 ⟨g1, ca1, rfl, hk1, hk1', o1, h3⟩; have O1 := Lib.hid (own_base' (base' := 0) o1.out fun _ _ => Nat.zero_le _); have U3 := Lib.hid (U2.out.trans h3); have V3 := Lib.hid h3; clear h3)
    | (go_at_call 17; refine (HRD.out 0 _ _ hd0 P1.out.dk).mono ?_; rintro e w2 ⟨g0, ca0, rfl, hk0, hk0', o0, h2⟩; have O0 := Lib.hid (own_base' (base' := 0) o0.out fun _ _ => Nat.zero_le _); have U2 := Lib.hid h2; clear h2; have y0 := (U2.out.cell (p := ⟨p, 0, none⟩) xl).trans x0; have yl := Nat.lt_of_lt_of_le xl U2.out.size)
    | (go_at_call 20; refine HCR.out.mono ?_; rintro e w1 ⟨rfl, h1, h2⟩; have P1 := Lib.hid h1; have C1 := Lib.hid h2; have x0 := (P1.out.blk.at (i := 0) rfl).2; have xl := P1.out.blk.lt; clear h1 h2)
    | fail)
  go_cut [5] from 38 to 39 (fun s5 wx => ∃ g c, s5 = .slice (some ⟨g, 0, none⟩) 32 c ∧ 32 ≤ c ∧ c ≤ 9223372036854775807 ∧ Hid (wx.ownsRow 0 5 1 (.slice (some ⟨g, 0, none⟩) 32 c) 32 (bc (hdrOf d))) ∧ w5 = wx)
  case first =>
    have HH : Hid (hdrOf d = if un32 (d.read 0) < un32 (d.read 1) then d.read 1 else d.read 0) := rfl
    by_cases hlt : un32 (d.read 0) < un32 (d.read 1)
    · have HH1 : Hid (hdrOf d = d.read 1) := by unfold Hid; rw [HH.out, if_pos hlt]
      go_wp2
      go_meet
      exact ⟨g1, ca1, rfl, hk1, hk1', by rw [HH1.out]; exact own_up O1.out V5.out, rfl⟩
    · have HH1 : Hid (hdrOf d = d.read 0) := by unfold Hid; rw [HH.out, if_neg hlt]
      go_wp2
      go_meet
      exact ⟨g0, ca0, rfl, hk0, hk0', by rw [HH1.out]; exact own_up O0'.out W5.out, rfl⟩
  case rest =>
    obtain ⟨g, c, rfl, hc1, hc2, OH, rfl⟩ := hcut
    have PP5 := Lib.hid (P1.out.ups C1.out U5.out HLT.out)
    clear O0 O0' O1 U2 U3 U4 V3 V5 W5 y0 yl x0 xl
    have x0 := (PP5.out.1.blk.at (i := 0) rfl).2
    have f1 := PP5.out.1.blk.free 1
    have f2 := PP5.out.1.blk.free 2
    have f3 := PP5.out.1.blk.free 3
    have xl := PP5.out.1.blk.lt
    have hHL : Hid ((hdrOf d).length = 32 ∧ IsB (hdrOf d)) := by
      unfold Hid hdrOf
      split
      · exact ⟨Dk.read_len HOK.out hd1, HBB.out 1 hd1⟩
      · exact ⟨Dk.read_len HOK.out hd0, HBB.out 0 hd0⟩
    go_upto_region 6 with fail
    obtain ⟨h, hh⟩ : ∃ h, h = hdrOf d := ⟨_, rfl⟩
    rw [← hh] at hHL OH hst hhd hin
    have HH := Lib.hid hh
    clear hh
    have HDR : Hid (∀ W k, k ≤ 8 → Hid (Up w5 W) → Calls Try.prog 49 #[.slice (some ⟨g, k, none⟩) (32 - k) (c - k)] W fun e w' => e = .returned (.int .i64 (un32 (h.drop k))) ∧ Hid (Up w5 w')) := by
      intro W k hk hu
      have h3 : Dk.Src W 1 (.slice (some ⟨g, k, none⟩) (32 - k) (c - k)) (32 - k) (bc (h.drop k)) := by
        have h0 := src_cut (Dk.own_src (own_up OH.out hu.out)) k 32 k (c - k) (by omega) (by decide) (.inl rfl) (by omega) (by omega)
        rw [List.take_of_length_le (by simp [bc, hHL.out.1]), ← List.map_drop] at h0
        exact h0
      exact (at32_any _ _ (h.drop k) W h3 (by rw [List.length_drop, hHL.out.1]; omega) fun x hx => hHL.out.2 x (List.mem_of_mem_drop hx)).mono fun e w' ⟨h1, h2⟩ => ⟨h1, hu.out.trans h2⟩
    have HD0 : Hid (∀ W, Hid (Up w5 W) → Calls Try.prog 49 #[.slice (some ⟨g, 0, none⟩) 32 c] W fun e w' => e = .returned (.int .i64 (un32 h)) ∧ Hid (Up w5 w')) := fun W hu => HDR.out W 0 (by decide) hu
    have HD4 : Hid (∀ W, Hid (Up w5 W) → Calls Try.prog 49 #[.slice (some ⟨g, 4, none⟩) 28 (c - 4)] W fun e w' => e = .returned (.int .i64 (un32 (h.drop 4))) ∧ Hid (Up w5 w')) := fun W hu => HDR.out W 4 (by decide) hu
    have HD8 : Hid (∀ W, Hid (Up w5 W) → Calls Try.prog 49 #[.slice (some ⟨g, 8, none⟩) 24 (c - 8)] W fun e w' => e = .returned (.int .i64 (un32 (h.drop 8))) ∧ Hid (Up w5 w')) := fun W hu => HDR.out W 8 (by decide) hu
    have hc4 : ¬ c = 4 := by omega
    have hc8 : ¬ c = 8 := by omega
    clear HDR
    go_cut [] from 40 to 56 (fun wx => ∃ wy, Hid (Up w5 wy) ∧ Hid (wx = ((wy.setCell ⟨p, 1, none⟩ (.int .i64 (un32 h))).setCell ⟨p, 3, none⟩ (.int .i64 (un32 (h.drop 4)))).setCell ⟨p, 2, none⟩ (.int .i64 (un32 (h.drop 8)))))
    case first =>
      go_region_law (first
        | (go_simp; go_at_call 49; refine (HD8.out _ U7).mono ?_; rintro e w8 ⟨rfl, U8⟩; have P8 := (PP5.out.1.up U8.out).blk; have l8 := P8.lt; have k1 := P8.free 1; have k2 := P8.free 2; have k3 := P8.free 3; have m1 := (P8.at (i := 1) rfl).2; have m2 := (P8.at (i := 2) rfl).2; have m3 := (P8.at (i := 3) rfl).2; clear P8)
        | (go_simp; go_at_call 49; refine (HD4.out _ U6).mono ?_; rintro e w7 ⟨rfl, U7⟩)
        | (go_simp; go_at_call 49; refine (HD0.out _ (Lib.hid (Up.refl _).drew)).mono ?_; rintro e w6 ⟨rfl, U6⟩)
        | fail)
      all_goals
        go_wp2
        go_meet
        exact ⟨w8, U8, rfl⟩
    case rest =>
      obtain ⟨wy, UY, HWC⟩ := hcut
      obtain ⟨hN, hhN⟩ := Int.eq_ofNat_of_zero_le (un32_nn h hHL.out.2)
      obtain ⟨sN, hsN⟩ := Int.eq_ofNat_of_zero_le (un32_nn (h.drop 4) fun x hx => hHL.out.2 x (List.mem_of_mem_drop hx))
      obtain ⟨iN, hiN⟩ := Int.eq_ofNat_of_zero_le (un32_nn (h.drop 8) fun x hx => hHL.out.2 x (List.mem_of_mem_drop hx))
      rw [hhN, hsN, hiN] at HWC
      have hst' : sN ≤ 10000000 := by omega
      have hhd' : hN + 1 < 4294967296 := by omega
      have hin' : iN + 1 < 4294967296 := by omega
      have HBK : Hid (L.back sv = ⟨d, hN, iN, sN, [], []⟩) := by
        unfold Hid Log.back
        rw [← HD.out, ← HH.out, hhN, hsN, hiN]
        rfl
      have PP6 : Hid (LogP wc p (Fx F w wc) ⟨d, hN, iN, sN, L.dat, L.ends⟩ q (Fx G w w1) dv ev ∧ Chg F w wc) := by
        rw [HWC.out]
        have a1 := PP5.out.1.ups PP5.out.2 UY.out HLT.out
        have a2 := a1.1.hdr hN
        have a3 := a2.1.strt sN
        have a4 := a3.1.incr iN
        exact LogP.join2 ⟨a4.1, (a2.2.trans a3.2 fun _ _ e => e).trans a4.2 fun _ _ e => e⟩ a1.2 HLT.out
      clear hhN hsN hiN HWC UY hst hhd hin OH hHL HH HD0 HD4 HD8 hc4 hc8 PP5 f1 f2 f3 x0 xl H32 HRD HCR P1 C1 U5 c0 hpl
      have HRB := Lib.hid (rd_any p ⟨d, hN, iN, sN, L.dat, L.ends⟩ _ wc ⟨_, _, _, _, PP6.out.1⟩ hb hb2 hst' (by rw [HPD.out]; decide) HBB.out)
      obtain ⟨D, hD⟩ : ∃ D, D = (⟨d, hN, iN, sN, L.dat, L.ends⟩ : Log).rd := ⟨_, rfl⟩
      rw [← hD] at HRB
      have hDl : D.length ≤ 5080 := by
        have := rdB_len d (d.dur.length - 2) sN (d.dur.length - 2) (sN / 20) 0 []
        rw [hD]
        show (rdB d (d.dur.length - 2) sN (d.dur.length - 2) (sN / 20) 0 []).length ≤ 5080
        have h0 : ([] : List Int).length = 0 := rfl
        omega
      have HDB : Hid (IsB D) := by
        rw [hD]
        exact rdB_isB d (d.dur.length - 2) sN (fun b => HBB.out _ (by have := Nat.mod_lt b (y := d.dur.length - 2) (by omega); omega)) _ _ _ _ (fun x hx => by cases hx)
      have HPA : Hid ((L.back sv).parsed = ⟨d, hN, iN + 1, sN, D.take ((parseE D D.length 0).getLast?.getD 0), parseE D D.length 0⟩) := by
        rw [HBK.out, hD]
        rfl
      clear hD HBK
      obtain ⟨n, hn⟩ : ∃ n, n = D.length := ⟨_, rfl⟩
      have HN := Lib.hid hn
      rw [← hn] at HRB hDl HPA
      clear hn
      obtain ⟨PE, hPE⟩ : ∃ PE, PE = parseE D n 0 := ⟨_, rfl⟩
      rw [← hPE] at HPA
      have HPE := Lib.hid hPE
      clear hPE
      have x4 := (PP6.out.1.blk.at (i := 4) rfl).2
      have x5 := (PP6.out.1.blk.at (i := 5) rfl).2
      have f4 := PP6.out.1.blk.free 4
      have f5 := PP6.out.1.blk.free 5
      have xl := PP6.out.1.blk.lt
      have FIN7 : Hid (∀ {v7 : Value} {w7 : World}, w7.ownsRow wc.heap.size 5 1 v7 n (bc D) → Up wc w7 → LogP ((w7.setCell ⟨p, 4, none⟩ v7).setCell ⟨p, 5, none⟩ (.slice none 0 0)) p (Fx F w ((w7.setCell ⟨p, 4, none⟩ v7).setCell ⟨p, 5, none⟩ (.slice none 0 0))) ⟨d, hN, iN, sN, D, []⟩ q (Fx G w w1) v7 (.slice none 0 0) ∧ Chg F w ((w7.setCell ⟨p, 4, none⟩ v7).setCell ⟨p, 5, none⟩ (.slice none 0 0))) := by
        intro v7 w7 h1 h2
        rw [HN.out] at h1
        have C5 := chg_set w7 p 4 none v7
        have hp1 := PP6.out.1.blk.lt
        have O5 := own_base' (base' := 0) (own_chg h1 C5 fun k hk e => by have := ((own_ty h1) k hk).2; omega) fun _ _ => Nat.zero_le _
        have key := LogP.join (PP6.out.1.putD (S := (· = p)) (l' := D) ((Below.chg (· = p) h2).trans C5 fun _ _ e => e) (fun k hk e => .inl e) ((PP6.out.1.blk.up h2).set 4 _) O5 (fun k hk => .inr ((own_ty h1) k hk).2)) PP6.out.2 HLT.out
        exact LogP.join (key.1.putE (S := (· = p)) (l' := []) (chg_set _ p 5 none (.slice none 0 0)) (fun k hk e => .inl e) (key.1.blk.set 5 _) (World.ownsRow_nil _ _ _ _) (fun k hk => by cases hk)) key.2 HLT.out
      go_upto_block 0 with (first
        | (go_at_call 50; refine HRB.out.mono ?_; rintro e w7 ⟨v7, rfl, h71, h72⟩; have O7 := Lib.hid h71; have U7 := Lib.hid h72; obtain ⟨da, dc, rfl, hda1, hda2, hda3⟩ := own_form h71; clear h71 h72; have y4 := (U7.out.cell (p := ⟨p, 4, none⟩) xl).trans x4; have y5 := (U7.out.cell (p := ⟨p, 5, none⟩) xl).trans x5; have yb := (PP6.out.1.up U7.out).blk; have yf4 := yb.free 4; have yf5 := yb.free 5; have yl := yb.lt; clear yb)
        | fail)
      have P8 := Lib.hid (FIN7.out O7.out U7.out)
      obtain ⟨w8, hw8⟩ : ∃ w8, w8 = (w7.setCell ⟨p, 4, none⟩ (.slice da n dc)).setCell ⟨p, 5, none⟩ (.slice none 0 0) := ⟨_, rfl⟩
      rw [← hw8] at P8 ⊢
      clear hw8 FIN7 HRB x4 x5 f4 f5 xl y4 y5 yf4 yf5 yl PP6 O7 U7
      obtain ⟨i2, hi2, ha3, ha4, ha5⟩ := info_parts Try.infoI
      have NB : Hid (∀ i, i < n → ∃ x : Nat, D.getD i 0 = (x : Int) ∧ x < 256) := by
        intro i hi
        have := HN.out
        have hm : D.getD i 0 ∈ D := by rw [List.getD_eq_getElem?_getD, List.getElem?_eq_getElem (by omega)]; exact List.getElem_mem _
        obtain ⟨h1, h2⟩ := HDB.out _ hm
        obtain ⟨x, hx⟩ := Int.eq_ofNat_of_zero_le h1
        exact ⟨x, hx, by omega⟩
      go_cut [9] from 65 to 115 (fun s9 wx => ∃ e evv, s9 = .int .i64 ((e : Nat) : Int) ∧ Hid (PE.getLast?.getD 0 = e) ∧ e ≤ n ∧ Hid (LogP wx p (Fx F w wx) ⟨d, hN, iN, sN, D, PE⟩ q (Fx G w w1) (.slice da n dc) evv) ∧ Hid (Chg F w wx))
      case first =>
        go_wp2
        go_loopw [9] (fun e9 wr => ∃ (e k : Nat) (es : List Nat) (evv : Value), e9 = .int .i64 (e : Int) ∧ e ≤ n ∧ n ≤ k + e ∧ Hid (es.getLast?.getD 0 = e) ∧ es.length ≤ e ∧ Hid (es ++ parseE D k e = PE) ∧ Hid (LogP wr p (Fx F w wr) ⟨d, hN, iN, sN, D, es⟩ q (Fx G w w1) (.slice da n dc) evv) ∧ Hid (Chg F w wr)) (fun e9 _ => n - (intOf e9).toNat)
        case atStart => exact ⟨0, n, [], .slice none 0 0, rfl, Nat.zero_le _, Nat.le_refl _, rfl, Nat.le_refl _, HPE.out.symm, P8.out.1, P8.out.2⟩
        case round =>
          obtain ⟨e, k, es, evv, rfl, he, hk, HL, hel, HP, PR, CR⟩ := hrel
          have x4 := (PR.out.blk.at (i := 4) rfl).2
          have x5 := (PR.out.blk.at (i := 5) rfl).2
          have xf := PR.out.blk.free 5
          have xl := PR.out.blk.lt
          have hen : (e : Int) ≤ (n : Int) := by omega
          have hn5 : (n : Int) ≤ 5080 := by omega
          by_cases hle : e + 2 ≤ n
          · have hlei : (e : Int) + 2 ≤ (n : Int) := by omega
            have PD := own_len PR.out.dow HN.out.symm
            obtain ⟨gd, gc, hv, _, _, _, _, _⟩ := own_some PD (by omega)
            cases hv
            have HX := Lib.hid (fun i (hi : i < n) => own_at8 PD i (by rw [← HN.out]; exact hi))
            clear PD
            obtain ⟨x, hx, hxb⟩ := NB.out e (by omega)
            obtain ⟨y, hy, hyb⟩ := NB.out (e + 1) (by omega)
            have b0 := (HX.out e (by omega)).1
            have b1 := (HX.out (e + 1) (by omega)).1
            have bl := (HX.out e (by omega)).2
            rw [hx] at b0
            rw [hy] at b1
            obtain ⟨m, hm⟩ : ∃ m, m = x * 256 + y := ⟨_, rfl⟩
            have s1 := i64_or_sum x y 8 (by omega) (by omega)
            rw [show ((2 ^ 8 * x : Nat) : Int) = (x : Int) * 256 by omega, show ((2 ^ 8 * x + y : Nat) : Int) = (m : Int) by omega] at s1
            have hmb : m ≤ 65535 := by omega
            have he1 : (e : Int) + 1 < (n : Int) := by omega
            have he0 : (e : Int) < (n : Int) := by omega
            have HSTEP : Hid (parseE D k e = if e + 2 + m ≤ n then (e + 2 + m) :: parseE D (k - 1) (e + 2 + m) else []) := by
              obtain ⟨k', rfl⟩ : ∃ k', k = k' + 1 := ⟨k - 1, by omega⟩
              show (if e + 2 ≤ D.length ∧ e + 2 + (D.getD e 0 * 256 + D.getD (e + 1) 0).toNat ≤ D.length then (e + 2 + (D.getD e 0 * 256 + D.getD (e + 1) 0).toNat) :: parseE D k' (e + 2 + (D.getD e 0 * 256 + D.getD (e + 1) 0).toNat) else []) = _
              rw [show (D.getD e 0 * 256 + D.getD (e + 1) 0).toNat = m by rw [hx, hy]; omega, ← HN.out]
              by_cases hf : e + 2 + m ≤ n
              · rw [if_pos hf, if_pos ⟨hle, hf⟩]; rfl
              · rw [if_neg hf, if_neg fun h => hf h.2]
            have HXX := Lib.hid hx
            have HYY := Lib.hid hy
            have HMM := Lib.hid hm
            clear hx hy hm
            go_wp2
            refine wp_region_gr (by kernel_rfl) (by kernel_rfl) ?_
            repeat (go_big_quiet_step (fail))
            refine wpQuiet_nil ?_
            intro _ hw'
            obtain ⟨gg, rfl⟩ := hw'
            have P2 := Lib.hid (PR.out.ups CR.out (gr_up wr gg) HLT.out)
            obtain ⟨wg, hwg⟩ : ∃ wg, wg = gr wr gg := ⟨_, rfl⟩
            rw [← hwg] at P2 ⊢
            clear hwg x4 x5 xf xl b0 b1 bl HX s1
            have x4 := (P2.out.1.blk.at (i := 4) rfl).2
            have xf := P2.out.1.blk.free 5
            have xl := P2.out.1.blk.lt
            by_cases hf : e + 2 + m ≤ n
            · obtain ⟨ea, ek, rfl, hea1, hea2, _⟩ := own_form P2.out.1.eow
              have x5 := (P2.out.1.blk.at (i := 5) rfl).2
              have hfi : ¬ (n : Int) < (e : Int) + 2 + (m : Int) := by omega
              have hmi : (m : Int) ≤ 5080 := by omega
              have E12 := Lib.hid P2.out.1.eow
              obtain ⟨e', he'⟩ : ∃ e', e' = e + 2 + m := ⟨_, rfl⟩
              have HIC : Hid (ic es ++ [.int .i64 ((e : Int) + (2 + (m : Int)))] = ic (es ++ [e'])) := by
                unfold Hid ic
                rw [List.map_append, show (e : Int) + (2 + (m : Int)) = (e' : Int) by omega]
                rfl
              have HST : Hid (es ++ [e'] ++ parseE D (k - 1) e' = PE) := by
                unfold Hid
                rw [← HP.out, HSTEP.out, if_pos hf, ← he', List.append_assoc]
                rfl
              have hesl : es.length ≤ 5080 := by omega
              have HEE := Lib.hid he'
              have hmb2 : (e : Int) + 2 + (m : Int) ≤ 5080 := by omega
              clear he'
              go_wp2_with (first
                | (at_builtin; refine wpList_append_lies _ rfl (.tmp 110) (.tmp 112) 22 rfl 0 3 i2 (.int .i64 0) 1 8 Try.underlying22 hi2 ha3 ha4 ha5 rfl (by decide) (.slice ea es.length ek) es.length (ic es) rfl (own_up E12.out ((Up.refl _).alloc _)) ⟨wg.heap.size, 0, none⟩ 1 1 [.int .i64 ((e : Int) + (2 + (m : Int)))] rfl rfl (fun j u hu => cell1 _ _ _ _ rfl j u hu) (by intro u hu; rw [List.mem_singleton.1 hu]; rfl) (by omega) (by unfold maxLen; omega) (by omega) (Nat.zero_le _) _ rfl ?_
                   intro g13 c13 w13 hown13 hgrow13 hat13 hlt13
                   have PB13 := fld_far P2.out.1.blk (by decide) E12.out ((Up.refl wg).alloc _) hgrow13
                   have m5 := (PB13.at (i := 5) rfl).2
                   have mf := PB13.free 5
                   have ml := PB13.lt
                   rw [HIC.out] at hown13
                   have FI3 := Lib.hid (LogP.join (P2.out.1.appE ((Up.refl wg).alloc _) hown13 hgrow13 hat13 ((Up.refl wg).alloc _).size) P2.out.2 HLT.out)
                   clear hown13 hgrow13 hat13 PB13)
                | fail)
              go_roundw
              case rel => exact ⟨e', k - 1, es ++ [e'], _, by rw [HEE.out]; go_num, by rw [HEE.out]; exact hf, by rw [HEE.out]; omega, by simp [Hid], by rw [List.length_append, List.length_singleton, HEE.out]; omega, HST.out, FI3.out.1, FI3.out.2⟩
              case measure => simp [intOf]; omega
            · have hfi : (n : Int) < (e : Int) + 2 + (m : Int) := by omega
              have HE : Hid (es = PE) := by
                unfold Hid
                rw [← HP.out, HSTEP.out, if_neg hf, List.append_nil]
              go_wp2
              go_meet
              exact ⟨e, evv, rfl, by rw [← HE.out]; exact HL.out, he, by rw [← HE.out]; exact P2.out.1, P2.out.2⟩
          · have hlei : ¬ (e : Int) + 2 ≤ (n : Int) := by omega
            have HE : Hid (es = PE) := by
              rw [← HP.out]
              cases k with
              | zero => exact (List.append_nil es).symm
              | succ k => 
                have hh : parseE D (k + 1) e = [] := by
                  show (if _ then _ else _) = _
                  rw [if_neg (fun h => hle (by have := HN.out; omega))]
                unfold Hid
                rw [hh, List.append_nil]
            go_wp2
            go_meet
            exact ⟨e, evv, rfl, by rw [← HE.out]; exact HL.out, he, by rw [← HE.out]; exact PR.out, CR.out⟩
      case rest =>
        obtain ⟨e, evv, rfl, HL, he, PR, CR⟩ := hcut
        rw [HL.out] at HPA
        have hda : Hid (da = none → dc = 0) := hda3
        clear P8 NB hda3 HL
        have HSRC : Hid (Dk.Src wc 1 (.slice da e dc) e (bc (D.take e))) := by
          have hn' := HN.out
          obtain ⟨hx, hs⟩ := Dk.own_src (own_len PR.out.dow HN.out.symm)
          refine ⟨by rw [List.length_map, List.length_take]; omega, ?_⟩
          rcases hs with ⟨h1, h2⟩ | ⟨b, off, cap, h1, h2, h3, h4⟩
          · cases h1
            exact .inl ⟨by rw [show e = 0 by omega], by omega⟩
          · cases h1
            refine .inr ⟨b, off, dc, rfl, by omega, h3, fun j u hj => h4 j u ?_⟩
            unfold bc at hj ⊢
            rw [List.map_take, List.getElem?_take] at hj
            split at hj
            · exact hj
            · cases hj
        have x2 := (PR.out.blk.at (i := 2) rfl).2
        have x4 := (PR.out.blk.at (i := 4) rfl).2
        have f2 := PR.out.blk.free 2
        have f4 := PR.out.blk.free 4
        have xl := PR.out.blk.lt
        have FINB : Hid (∀ {v7 : Value} {w7 : World}, w7.ownsRow wc.heap.size 5 1 v7 e (bc (D.take e)) → Up wc w7 → LogPost p (L.back sv).parsed F w ((w7.setCell ⟨p, 4, none⟩ v7).setCell ⟨p, 2, none⟩ (.int .i64 ((iN : Int) + 1)))) := by
          intro v7 w7 h1 h2
          have hn' := HN.out
          have h1 := own_len h1 (show e = (D.take e).length by rw [List.length_take]; omega)
          have C5 := chg_set w7 p 4 none v7
          have hp1 := PR.out.blk.lt
          have O5 := own_base' (base' := 0) (own_chg h1 C5 fun k hk e => by have := ((own_ty h1) k hk).2; omega) fun _ _ => Nat.zero_le _
          have key := LogP.join (PR.out.putD (S := (· = p)) (l' := D.take e) ((Below.chg (· = p) h2).trans C5 fun _ _ e => e) (fun k hk e => .inl e) ((PR.out.blk.up h2).set 4 _) O5 (fun k hk => .inr ((own_ty h1) k hk).2)) CR.out HLT.out
          have k2 := key.1.incr (iN + 1)
          have k3 := LogP.join2 k2 key.2 HLT.out
          rw [HPA.out]
          rw [show ((iN : Int) + 1) = ((iN + 1 : Nat) : Int) by omega]
          exact ⟨⟨_, _, _, _, k3.1⟩, k3.2⟩
        have hee : e * 1 ≤ 140737488355328 := by omega
        have hei : (e : Int) ≤ (n : Int) := by omega
        have hii : IntKind.i64.wrap ((iN : Int) + 1) = (iN : Int) + 1 := IntWalk.i64_in _ (by omega)
        go_upto_region 16 with (first
          | (go_at_call 43; refine (Dk.cloneB_any _ _ _ _ HSRC.out (Dk.bc_one _) hee).mono ?_; rintro ee w5 ⟨v5, rfl, h51, h52, _⟩
             have O5 := Lib.hid h51
             have U5 := Lib.hid h52
             obtain ⟨a5, k5, rfl, _, _, _⟩ := own_form h51
             have yb := (PR.out.up h52).blk
             have y2 := (yb.at (i := 2) rfl).2
             have y4 := (yb.at (i := 4) rfl).2
             have yf2 := yb.free 2
             have yf4 := yb.free 4
             have yl := yb.lt
             clear h51 h52 yb)
          | fail)
        have FB := Lib.hid (FINB.out O5.out U5.out)
        obtain ⟨w16, hw16⟩ : ∃ w16, w16 = (w5.setCell ⟨p, 4, none⟩ (.slice a5 e k5)).setCell ⟨p, 2, none⟩ (.int .i64 ((iN : Int) + 1)) := ⟨_, rfl⟩
        rw [← hw16] at FB ⊢
        clear hw16 FINB O5 U5 y2 y4 yf2 yf4 yl x2 x4 f2 f4 xl PR CR HSRC
        have HQ : Hid ((L.back sv).parsed.head.dsk.dur.length = d.dur.length ∧ (L.back sv).parsed.head.dsk.pend.length = 0 ∧ (L.back sv).parsed.head.st = sN ∧ (L.back sv).parsed.head.inc = iN + 1 ∧ (L.back sv).parsed.head.dat.length = e) := by
          rw [HPA.out]
          have hn' := HN.out
          refine ⟨?_, rfl, rfl, rfl, ?_⟩
          · show (Dk.applyW (Dk.applyW _ _) _).length = _
            rw [Dk.applyW_len, Dk.applyW_len]
          · show (D.take e).length = e
            rw [List.length_take]; omega
        have HHD : Hid (Calls Try.prog 44 #[.pointer (some ⟨p, 0, none⟩)] w16 fun e w' => e = .returned (.tuple #[]) ∧ LogPost p (L.back sv).parsed.head F w w') := by
          refine (header_any p _ _ w16 FB.out.1 (by rw [HPA.out]; show 2 ≤ d.dur.length; omega) (by rw [HPA.out]; exact hhd') (by rw [HPA.out]; show sN < 4294967296; omega) (by rw [HPA.out]; exact hin')).mono ?_
          rintro e w' ⟨h1, h2⟩
          exact ⟨h1, FB.out.trans h2 HLT.out⟩
        have HRT : Hid (L.crash sv = (L.back sv).parsed.head.root) := rfl
        clear HPA FB
        generalize (L.back sv).parsed.head = L3 at *
        obtain ⟨E, hE⟩ : ∃ E, E = L3.en := ⟨_, rfl⟩
        have hEe : E = sN + e := by rw [hE]; unfold Log.en; rw [HQ.out.2.2.1, HQ.out.2.2.2.2]
        have hEb : E ≤ 10005080 := by omega
        have hEs : (sN : Int) ≤ (E : Int) := by omega
        have hEi : (E : Int) ≤ 10005080 := by omega
        have HEN := Lib.hid hE
        have HEE := Lib.hid hEe
        have hbl2 : L3.bl + 2 = d.dur.length := by unfold Log.bl; rw [HQ.out.1]; omega
        have HBL := Lib.hid hbl2
        clear hE hEe hbl2
        go_upto_region 18 with (first
          | (go_at_call 44; refine HHD.out.mono ?_; rintro e w17 ⟨rfl, h17⟩; have P17 := Lib.hid h17; clear h17)
          | (go_at_call 46; refine (end_any p L3 _ _ P17.out.1 (by rw [HQ.out.2.2.1, HQ.out.2.2.2.2]; omega)).mono ?_; rintro e w18 ⟨rfl, h18⟩; rw [← HEN.out]; have P18 := Lib.hid (P17.out.up h18 HLT.out); clear h18)
          | fail)
        obtain ⟨q3, G3, dv3, ev3, PX⟩ := P18.out.1
        have z3 := (PX.blk.at (i := 3) rfl).2
        have zl := PX.blk.lt
        rw [HQ.out.2.2.1] at z3
        have HBLK := Lib.hid (fun W (hu : Up w18 W) => blocks_any p L3 _ W (P18.out.1.up hu) (by rw [HQ.out.1]; omega) (by rw [HQ.out.1]; exact hb2))
        clear PX
        refine wp_region_gr (by kernel_rfl) (by kernel_rfl) ?_
        repeat (go_big_quiet_step (first
          | (go_at_call 47; exact gr_call (HBLK.out _ (gr_up _ _)))
          | fail))
        refine wpQuiet_nil ?_
        intro _ hw'
        obtain ⟨gg, rfl⟩ := hw'
        have P19 := Lib.hid (P18.out.up (gr_up w18 gg) HLT.out)
        obtain ⟨w19, hw19⟩ : ∃ w19, w19 = gr w18 gg := ⟨_, rfl⟩
        rw [← hw19] at P19 ⊢
        clear hw19 z3 zl P18 P17 HBLK HHD
        by_cases hc : E / 20 - sN / 20 + 1 ≤ L3.bl
        · have hci : (E : Int) / 20 - (sN : Int) / 20 + 1 ≤ (L3.bl : Int) := by omega
          have HR2 : Hid (L.crash sv = { L3.wb (E / 20) with dsk := (L3.wb (E / 20)).dsk.flush }) := by
            unfold Hid
            rw [HRT.out]
            unfold Log.root
            rw [← HEN.out, HQ.out.2.2.1, if_pos hc]
          have HWB : Hid (Calls Try.prog 48 #[.pointer (some ⟨p, 0, none⟩), .int .i64 ((E : Int) / 20)] w19 fun e w' => e = .returned (.tuple #[]) ∧ LogPost p (L3.wb (E / 20)) F w w') := by
            rw [show (E : Int) / 20 = ((E / 20 : Nat) : Int) by omega]
            refine (block_any p L3 _ (E / 20) w19 P19.out.1 (by rw [HQ.out.1]; exact hb) (by rw [HQ.out.1]; exact hb2) (by rw [HQ.out.2.2.1, HQ.out.2.2.2.2]; omega) (by rw [← HEN.out]; omega) (by rw [HQ.out.2.2.2.1]; exact hin') (by rw [HQ.out.2.1]; decide)).mono ?_
            rintro e w' ⟨h1, h2⟩
            exact ⟨h1, P19.out.trans h2 HLT.out⟩
          go_wp2_with (first
            | (go_at_call 16; refine (Dk.flush_any q4 _ _ _ P20.out.dk).mono ?_; rintro e w21 ⟨rfl, h1, h2⟩; have P21 := Lib.hid (P20.out.flow C20.out h1 h2 HLT.out); clear h1 h2)
            | (go_at_call 48; refine HWB.out.mono ?_; rintro e w20 ⟨rfl, ⟨q4, G4, dv4, ev4, h20⟩, k20⟩; have P20 := Lib.hid h20; have C20 := Lib.hid k20; have z0 := (P20.out.blk.at (i := 0) rfl).2; have zl := P20.out.blk.lt; clear h20 k20)
            | fail)
          go_ret
          exact ⟨rfl, by rw [HR2.out]; exact ⟨⟨_, _, _, _, P21.out.1⟩, P21.out.2⟩⟩
        · have hci : ¬ (E : Int) / 20 - (sN : Int) / 20 + 1 ≤ (L3.bl : Int) := by omega
          have HR2 : Hid (L.crash sv = L3) := by
            unfold Hid
            rw [HRT.out]
            unfold Log.root
            rw [← HEN.out, HQ.out.2.2.1, if_neg hc]
          go_wp2
          go_ret
          exact ⟨rfl, by rw [HR2.out]; exact P19.out⟩
end Go.Proofs.Ytmaeeidaegigcaa.Wl
