/- Top 16: rvSerialExecution. -/
import Derived.Test.YtnbhdpmhgamjfaaTye
namespace Go.Proofs.Ytnbhdpmhgamjfaa.Sn
open Go Go.RowKit Hp
open Mv (Val PC PV Srt SOk pos has cnt)
open C (Tx TxR Txs tx0 Valid admV admL cur wk cur_snoc)
set_option linter.unusedVariables false

theorem admL_succ (adm : List Bool) (n : Nat) : (admL adm (n + 1)).length = (admL adm n).length + if adm.getD n false then 1 else 0 := by
  unfold admL
  rw [List.range_succ, List.filter_append, List.length_append]
  cases h : adm.getD n false <;> simp only [List.filter, h] <;> rfl
theorem MI.chg {S : Nat → Prop} {w w' : World} {b n : Nat} {g : ByteArray → Int} {D : DataW Value} (h : MI w b n g D) (hc : Chg S w w') (hS : ¬ S b) : MI w' b n g D := by
  refine ⟨?_, h.rows⟩
  have hlt := h.own.lt
  obtain ⟨es, clock, hb, F, hs, hD⟩ := h.own
  exact ⟨es, clock, (hc.block b hlt hS).trans hb, F, hs, hD⟩
theorem bools_of {w : World} {g n : Nat} {adm : List Bool} {E : TypeId} (h : Blk w g (C.bv adm) E) (hl : adm.length = n) (hn : n ≤ 40) : Bools w (.slice (some ⟨g, 0, none⟩) n n) adm := by
  subst hl
  exact C.bv_arr h (by omega)
theorem strs_at {w : World} {a : Option Addr} {n c : Nat} {l : List ByteArray} (h : Strs w (.slice a n c) l) {k : Nat} (hk : k < l.length) : ∃ b off, a = some ⟨b, off, none⟩ ∧ At w b (off + k) (.string (l.getD k ByteArray.empty)) := by
  obtain ⟨a', c', e, _, _, _, h3⟩ := h
  obtain ⟨b, off, e2, h4⟩ := h3 k hk
  simp only [Value.slice.injEq] at e
  refine ⟨b, off, e.1.trans e2, ?_⟩
  have := h4.2
  rw [Nat.mul_one] at this
  rw [List.getD_eq_getElem?_getD, List.getElem?_eq_getElem hk]
  exact this
theorem ints_at {w : World} {a : Option Addr} {n c : Nat} {l : List Int} (h : Ints w (.slice a n c) l) {k : Nat} (hk : k < l.length) : ∃ b off, a = some ⟨b, off, none⟩ ∧ At w b (off + k) (.int .i64 (l.getD k 0)) := by
  obtain ⟨a', c', e, _, _, _, h3⟩ := h
  obtain ⟨b, off, e2, h4⟩ := h3 k hk
  simp only [Value.slice.injEq] at e
  refine ⟨b, off, e.1.trans e2, ?_⟩
  have : At w b (off + k * 1) (.int .i64 l[k]) := h4
  rw [Nat.mul_one] at this
  rw [List.getD_eq_getElem?_getD, List.getElem?_eq_getElem hk]
  exact this
theorem getD_mem2 {l : List ByteArray} {k : Nat} (h : k < l.length) : l.getD k ByteArray.empty ∈ l := by
  rw [List.getD_eq_getElem?_getD, List.getElem?_eq_getElem h]
  exact List.getElem_mem h
set_option maxRecDepth 100000 in
set_option maxHeartbeats 8000000 in
theorem serial_any {w0 w : World} {K : Nat → Prop} {p : Nat} {d : Db} (hO : Own w0 K w p d) (va ve : Value) (rs : List Rec) (hT : Txs w va (txs rs)) (hR : Arr RecR 6 w ve rs) (hF : Fin d rs) :
    Calls Try.prog 14 #[.pointer (some ⟨p, 0, none⟩), va, ve] w fun e w' => e = .returned (.bool true) ∧ Up w0 w' := by
  obtain ⟨res, hr, hr40, _⟩ := C.serial (txs rs) hF.hv
  have HL : Hid ((admV (txs rs)).length = rs.length) := by unfold Hid; rw [C.admV, C.admN_length, txs_len]
  have HA : Hid (Calls Try.prog 8 #[va] w fun e w' => ∃ g, e = .returned (.tuple #[.slice (some ⟨g, 0, none⟩) rs.length rs.length, .int .i64 0]) ∧ w.heap.size ≤ g ∧ Blk w' g (C.bv (admV (txs rs))) 4 ∧ Up w w') := by
    have := C.admit_any va (txs rs) w hT hF.hv
    rwa [txs_len] at this
  have HT := Lib.hid hT
  have HOr := Lib.hid hr
  have HO := Lib.hid hO
  have HF := Lib.hid hF
  obtain ⟨a', cap', rfl, h1', h2', _, h3'⟩ := hR
  have HR := Lib.hid h3'
  have hn40 : rs.length ≤ 40 := by have := hF.hv.len; rwa [txs_len] at this
  clear hT hr hO hF h3'
  have hmm := @run_makeMap Try.prog
  go_enter Try.func14, Try.ntmps14
  go_wp2_with (first
    | (have q9 := H1; clear q9; go_at_call 29; refine (C.order_any _ _ (txs rs) (admV (txs rs)) _ (HT.out.grow C.txR_grows H1.out.2.2) (bools_of H1.out.2.1 HL.out hn40) HF.out.hv (by rw [HL.out, txs_len]) res HOr.out).mono ?_; rintro e w2 ⟨v, rfl, hown, hu2⟩; obtain ⟨ao, co, rfl⟩ := C.own_len hown; have H2 := Lib.hid (And.intro hown hu2); clear hown hu2)
    | (go_at_call 8; refine HA.out.mono ?_; rintro e w1 ⟨g, rfl, hg, hb, hu1⟩; have H1 := Lib.hid (And.intro hg (And.intro hb hu1)); clear hg hb hu1)
    | fail)
  go_loopw [12, 55] (fun ev iv wr => ∃ (i n : Nat) (D : DataW Value), i ≤ res.length ∧ iv = .int .i64 i ∧ ev = .int .i64 i ∧ n ≤ 12 * i ∧ Hid (Up w2 wr ∧ MI wr w2.heap.size n (cur (txs rs) (valR rs) ((res.take i).map Int.toNat)) D)) (fun _ iv _ => res.length - (intOf iv).toNat)
  case atStart => exact ⟨0, 0, .map [], by omega, rfl, rfl, by omega, (Up.refl w2).alloc _, MI.zero w2⟩
  case round =>
    obtain ⟨i, n, D, hi, rfl, rfl, hn, HM⟩ := hrel
    obtain ⟨wo, rfl⟩ : ∃ x, x = wr := ⟨_, rfl⟩
    by_cases hlt : i < res.length
    · have HU := Lib.hid HM.out.1
      have HMI := Lib.hid HM.out.2
      have hsrc := own_src H2.out.1
      obtain ⟨bo, oo, rfl, hat⟩ := Mv.src_at hsrc (by omega)
      obtain ⟨j, ej, hj, aj⟩ := (C.ord_mem HF.out.hv HOr.out res[i]).1 (List.getElem_mem hlt)
      rw [txs_len] at hj
      have kx := (hat i (.int .i64 (j : Int)) (by simp [hlt, ej])).grow HU.out
      obtain ⟨kxb, kx⟩ := kx
      have HP : Hid (res[i]? = some (j : Int)) := by unfold Hid; rw [List.getElem?_eq_getElem hlt, ej]
      have ka := ((H1.out.2.1.up H2.out.2).up HU.out).cell j
      rw [show (C.bv (admV (txs rs)))[j]? = some (.bool true) by
        rw [List.getD_eq_getElem?_getD] at aj
        rw [List.getElem?_map]
        cases h : (admV (txs rs))[j]? with
        | none => rw [h] at aj; cases aj
        | some b => rw [h] at aj; simp at aj; rw [aj]; rfl] at ka
      obtain ⟨be, oe, rfl, hre⟩ := C.arr_at (n := 0) (cap := 0) rec0 HR.out (by omega)
      obtain ⟨ra, rc, wa, wc, xa, xc, s1, s2, s3, eb, e0, e1, e2, e3, e4, e5⟩ := (recR_grows _ _ _ _ _ (hre j hj) (H1.out.2.2.trans H2.out.2)).val
      obtain ⟨r, hrj⟩ : ∃ r, r = rs.getD j rec0 := ⟨_, rfl⟩
      rw [← hrj] at s1 s2 s3 e0 e1 e2 e3 e4 e5
      have HRJ := Lib.hid hrj
      have HROK : Hid (ROk r) := by unfold Hid; rw [hrj]; exact HF.out.ok _ (getD_mem' hj)
      have e0 := ((show At w2 be _ _ from ⟨eb, e0⟩).grow HU.out).2
      have e1 := ((show At w2 be _ _ from ⟨eb, e1⟩).grow HU.out).2
      have e2 := ((show At w2 be _ _ from ⟨eb, e2⟩).grow HU.out).2
      have e3 := ((show At w2 be _ _ from ⟨eb, e3⟩).grow HU.out).2
      have e4 := ((show At w2 be _ _ from ⟨eb, e4⟩).grow HU.out).2
      have e5 := ((show At w2 be _ _ from ⟨eb, e5⟩).grow HU.out).2
      have eb := Nat.lt_of_lt_of_le eb HU.out.size
      have hrl : r.tx.reads.length ≤ 12 := by have := HF.out.hv.rd j (by rw [txs_len]; exact hj); rwa [txs_get, ← hrj] at this
      have hwl : r.tx.writes.length ≤ 12 := by have := HF.out.hv.wr j (by rw [txs_len]; exact hj); rwa [txs_get, ← hrj] at this
      have hj0 : ¬ ((j : Int) < 0) := by omega
      have hj1 : (j : Int) < (rs.length : Int) := by omega
      have S1 := Lib.hid s1
      have S2 := Lib.hid s2
      have S3 := Lib.hid s3
      clear hsrc hat aj hrj hre ej s1 s2 s3
      go_wp2
      have HBX := Lib.hid (Blk.new wo #[.int .i64 r.id, .int .i64 r.tx.start, .int .i64 r.tx.commit, .slice ra r.tx.reads.length rc, .slice wa r.tx.writes.length wc, .slice xa r.read.length xc] 37)
      have HUB := Lib.hid ((Up.refl wo).alloc (.cells #[.int .i64 r.id, .int .i64 r.tx.start, .int .i64 r.tx.commit, .slice ra r.tx.reads.length rc, .slice wa r.tx.writes.length wc, .slice xa r.read.length xc] 37))
      generalize (wo.alloc (.cells #[.int .i64 r.id, .int .i64 r.tx.start, .int .i64 r.tx.commit, .slice ra r.tx.reads.length rc, .slice wa r.tx.writes.length wc, .slice xa r.read.length xc] 37)) = Wb at HBX HUB ⊢
      clear kxb kx ka eb e0 e1 e2 e3 e4 e5 hj0
      go_loopw [82] (fun iv wi => ∃ k : Nat, k ≤ r.tx.reads.length ∧ iv = .int .i64 k ∧ Up Wb wi) (fun iv _ => r.tx.reads.length - (intOf iv).toNat)
      case atStart => exact ⟨0, by omega, rfl, Up.refl _⟩
      case round =>
        obtain ⟨k, hk, rfl, hu⟩ := hrel
        obtain ⟨wi, rfl⟩ : ∃ x, x = wr := ⟨_, rfl⟩
        have HUI := Lib.hid hu
        clear hu
        by_cases hlk : k < r.tx.reads.length
        · obtain ⟨bs, os, rfl, hs⟩ := strs_at (S1.out.grow strR_grows HU.out) hlk
          have ks := ((hs.grow HUB.out).grow HUI.out).2
          have hkr : k < r.read.length ∧ cur (txs rs) (valR rs) ((res.take i).map Int.toNat) (r.tx.reads.getD k ByteArray.empty) = r.read.getD k 0 := by
            have := HF.out.read HOr.out HP.out hj (k := k)
            rw [← HRJ.out] at this
            exact this hlk
          have hksz := HROK.out.keys _ (.inl (getD_mem2 hlk))
          have hlook := HMI.out.look hksz
          rw [hkr.2] at hlook
          obtain ⟨s, hs'⟩ : ∃ s, s = r.tx.reads.getD k ByteArray.empty := ⟨_, rfl⟩
          obtain ⟨y, hy⟩ : ∃ y, y = r.read.getD k 0 := ⟨_, rfl⟩
          rw [← hs'] at ks hlook
          obtain ⟨bx, ox, rfl, hx⟩ := ints_at (S3.out.grow intR_grows HU.out) hkr.1
          rw [← hy] at hx hlook
          have hkr1 := hkr.1
          have kb := (HBX.out.up HUI.out).cell 5
          rw [show ((#[Value.int .i64 r.id, .int .i64 r.tx.start, .int .i64 r.tx.commit, .slice (some ⟨bs, os, none⟩) r.tx.reads.length rc, .slice wa r.tx.writes.length wc, .slice (some ⟨bx, ox, none⟩) r.read.length xc]).toList)[5]? = some (.slice (some ⟨bx, ox, none⟩) r.read.length xc) from rfl] at kb
          have kbl := (HBX.out.up HUI.out).lt
          obtain ⟨kxl, kxx⟩ := (hx.grow HUB.out).grow HUI.out
          have HLK := Lib.hid hlook
          have hky : (k : Int) < (r.read.length : Int) := by omega
          clear hs hs' hkr hksz hlook hx hy
          go_wp2
          have hlk2 : ∀ g : Gr wi, Sem.run Try.prog (Instr.lookup 80 (.map (some w2.heap.size)) (.string s) false) (gr wi g) = .ok (.int .i64 y) (gr wi g) := fun g => HLK.out _ ((HUB.out.trans HUI.out).trans (gr_up wi g))
          refine wp_region_gr (by kernel_rfl) (by kernel_rfl) ?_
          repeat (go_big_quiet_step (first | fail))
          refine wpQuiet_nil ?_
          intro _ hw'
          obtain ⟨gg, rfl⟩ := hw'
          go_wp2
          go_roundw
          case rel => exact ⟨k + 1, by omega, by go_num, HUI.out.trans (gr_up wi gg)⟩
          case measure => simp [intOf]; omega
        · obtain rfl : k = r.tx.reads.length := by omega
          clear hk hlk
          have kb := (HBX.out.up HUI.out).cell 4
          rw [show ((#[Value.int .i64 r.id, .int .i64 r.tx.start, .int .i64 r.tx.commit, .slice ra r.tx.reads.length rc, .slice wa r.tx.writes.length wc, .slice xa r.read.length xc]).toList)[4]? = some (.slice wa r.tx.writes.length wc) from rfl] at kb
          have kbl := (HBX.out.up HUI.out).lt
          go_wp2
          have HB2 := Lib.hid (HBX.out.up HUI.out)
          have HM2 := Lib.hid (HMI.out.up (HUB.out.trans HUI.out))
          have HU2 := Lib.hid ((HU.out.trans HUB.out).trans HUI.out)
          have hws : w2.heap.size ≤ wo.heap.size := HU.out.size
          have hmb : w2.heap.size < wo.heap.size := HMI.out.own.lt
          clear kb kbl
          go_loopw [101] (fun iv wk => ∃ (m n' : Nat) (D' : DataW Value), m ≤ r.tx.writes.length ∧ iv = .int .i64 m ∧ n' ≤ 12 * i + m ∧ Hid (Up w2 wk ∧ Blk wk wo.heap.size [.int .i64 r.id, .int .i64 r.tx.start, .int .i64 r.tx.commit, .slice ra r.tx.reads.length rc, .slice wa r.tx.writes.length wc, .slice xa r.read.length xc] 37 ∧ MI wk w2.heap.size n' (upG (cur (txs rs) (valR rs) ((res.take i).map Int.toNat)) r.tx.writes m (resV r)) D')) (fun iv _ => r.tx.writes.length - (intOf iv).toNat)
          case atStart => exact ⟨0, n, D, by omega, rfl, by omega, HU2.out, HB2.out, HM2.out.congr (upG_zero _ _ _)⟩
          case round =>
            obtain ⟨m, n', D', hm, rfl, hn', HQ⟩ := hrel
            obtain ⟨wk, rfl⟩ : ∃ x, x = wr := ⟨_, rfl⟩
            by_cases hlm : m < r.tx.writes.length
            · obtain ⟨bs, os, rfl, hs⟩ := strs_at S2.out hlm
              have ks := (hs.grow HQ.out.1).2
              have hksz := HROK.out.keys _ (.inr (getD_mem2 hlm))
              have HE : Hid (r.tx.writes[m] = r.tx.writes.getD m ByteArray.empty) := by unfold Hid; rw [List.getD_eq_getElem?_getD, List.getElem?_eq_getElem hlm]; rfl
              obtain ⟨s, hs'⟩ : ∃ s, s = r.tx.writes.getD m ByteArray.empty := ⟨_, rfl⟩
              rw [← hs'] at ks hksz HE
              have c0 := HQ.out.2.1.cell 0
              have c1 := HQ.out.2.1.cell 1
              have c2 := HQ.out.2.1.cell 2
              have c3 := HQ.out.2.1.cell 3
              have c4 := HQ.out.2.1.cell 4
              have c5 := HQ.out.2.1.cell 5
              have cb := HQ.out.2.1.lt
              have HRES : Hid (∀ W, Up wk W → Calls Try.prog 12 #[.agg #[.int .i64 r.id, .int .i64 r.tx.start, .int .i64 r.tx.commit, .slice ra r.tx.reads.length rc, .slice (some ⟨bs, os, none⟩) r.tx.writes.length wc, .slice xa r.read.length xc]] W fun e w' => e = .returned (.int .i64 (resV r)) ∧ Up W w') := fun W hW => result_any _ r W ⟨_, _, _, rfl, S1.out.grow strR_grows (HQ.out.1.trans hW), S2.out.grow strR_grows (HQ.out.1.trans hW), S3.out.grow intR_grows (HQ.out.1.trans hW)⟩
              simp only [List.getElem?_cons_zero, List.getElem?_cons_succ] at c0 c1 c2 c3 c4 c5
              clear hs hs'
              go_wp2_with (first
                | (have q9 := V8; clear q9; at_mapUpdate; refine wpList_mapUpdate_own _ rfl _ _ _ 80 rfl 9 3 (Maps.string_keyed Try.underlying9) Try.underlying80 RI w2.heap.size n' D' rfl (HQ.out.2.2.up V8.out).own (by unfold maxLen; omega) _ _ _ rfl rfl (key_of hksz) _ [] rfl ?_; intro w9 hown9 hgrow9; have V9 := Lib.hid (And.intro hown9 hgrow9); clear hown9 hgrow9)
                | (go_at_call 12; refine (HRES.out _ (by first | exact Up.refl _ | exact (Up.refl _).drew)).mono ?_; rintro e w8 ⟨rfl, hu8⟩; have V8 := Lib.hid hu8; clear hu8)
                | fail)
              go_roundw
              case rel =>
                have C9 : Chg (fun k => some w2.heap.size = some k) w8 w9 := (Chg.refl _ w8).grown V9.out.2 fun k hk => .inl hk
                refine ⟨m + 1, n' + 1, _, by omega, by go_num, by omega, Below.grown (HQ.out.1.trans V8.out) V9.out.2 (HQ.out.1.trans V8.out).size (fun k e => by cases e; exact Nat.le_refl _), (HQ.out.2.1.up V8.out).chg C9 (fun e => by simp only [Option.some.injEq] at e; omega), ((HQ.out.2.2.up V8.out).put V9.out.1).congr fun k' => ?_⟩
                rw [← upG_succ _ _ hlm, HE.out]
              case measure => simp [intOf]; omega
            · obtain rfl : m = r.tx.writes.length := by omega
              go_wp2
              go_roundw
              case rel =>
                refine ⟨i + 1, n', D', by omega, by go_num, by go_num, by omega, HQ.out.1, HQ.out.2.2.congr fun k' => ?_⟩
                have hre : resV r = valR rs j := by unfold valR; rw [← HRJ.out]
                have ht : (res.take (i + 1)).map Int.toNat = (res.take i).map Int.toNat ++ [j] := by
                  have := HP.out
                  rw [List.getElem?_eq_getElem hlt] at this
                  rw [List.take_succ_eq_append_getElem hlt, List.map_append]
                  simp only [Option.some.injEq] at this
                  rw [this]
                  rfl
                rw [ht, ← upG_all, hre, HRJ.out]
              case measure => simp [intOf]; omega
    · obtain rfl : i = res.length := by omega
      clear hlt hi
      have HME : Hid (Up w2 wo ∧ MI wo w2.heap.size n (stN rs rs.length) D) := by
        refine ⟨HM.out.1, HM.out.2.congr fun k => ?_⟩
        rw [List.take_length, C.ord_last HF.out.hv HOr.out, txs_len]
        rfl
      have HAL : Hid (Up w1 wo) := H2.out.2.trans HM.out.1
      go_wp2
      go_loopw [12, 115] (fun ev iv wi => ∃ k : Nat, k ≤ rs.length ∧ iv = .int .i64 k ∧ ev = .int .i64 ((res.length : Int) - ((admL (admV (txs rs)) k).length : Int)) ∧ Hid (Up wo wi)) (fun _ iv _ => rs.length - (intOf iv).toNat)
      case atStart => exact ⟨0, by omega, rfl, by simp [admL], Up.refl wo⟩
      case round =>
        obtain ⟨k, hk, rfl, rfl, HUK⟩ := hrel
        obtain ⟨wi, rfl⟩ : ∃ x, x = wr := ⟨_, rfl⟩
        by_cases hlk : k < rs.length
        · have ka := ((H1.out.2.1.up HAL.out).up HUK.out).cell k
          obtain ⟨b, hb⟩ : ∃ b, b = (admV (txs rs)).getD k false := ⟨_, rfl⟩
          rw [show (C.bv (admV (txs rs)))[k]? = some (.bool b) by rw [List.getElem?_map, hb, List.getD_eq_getElem?_getD, List.getElem?_eq_getElem (by rw [HL.out]; exact hlk)]; rfl] at ka
          have hkl := ((H1.out.2.1.up HAL.out).up HUK.out).lt
          have HS := Lib.hid (admL_succ (admV (txs rs)) k)
          have hc : (admL (admV (txs rs)) k).length ≤ k := by unfold admL; exact Nat.le_trans (List.length_filter_le _ _) (by simp)
          rw [← hb] at HS
          generalize (admL (admV (txs rs)) k).length = c at hc HS ⊢
          clear hb
          cases b with
          | true =>
            go_wp2
            go_roundw
            case rel => exact ⟨k + 1, by omega, by go_num, by rw [HS.out]; go_num, HUK.out⟩
            case measure => simp [intOf]; omega
          | false =>
            go_wp2
            go_roundw
            case rel => exact ⟨k + 1, by omega, by go_num, by rw [HS.out]; simp, HUK.out⟩
            case measure => simp [intOf]; omega
        · obtain rfl : k = rs.length := by omega
          have hzero : (res.length : Int) - ((admL (admV (txs rs)) rs.length).length : Int) = 0 := by
            have := C.ord_len HF.out.hv HOr.out
            rw [txs_len] at this
            omega
          rw [hzero]
          clear hlk hk
          have HUW : Hid (Up w wi) := (H1.out.2.2.trans HAL.out).trans HUK.out
          have HOW : Hid (Own w0 (fun k => K k ∨ (w.heap.size ≤ k ∧ k < wi.heap.size)) wi p d) := HO.out.widen HUW.out
          have HMW : Hid (MI wi w2.heap.size n (stN rs rs.length) D) := HME.out.2.up HUK.out
          go_wp2_with (first
            | (go_at_call 6; refine (beginO HOW.out HF.out.last HF.out.act).mono ?_; rintro e w3 ⟨rfl, h3⟩; have H3 := Lib.hid h3; clear h3)
            | fail)
          have HTR : Hid (tr (begD d) (d.last + 1) = some ⟨d.last + 1, d.clock, []⟩) := by unfold Hid; rw [tr_beg HOW.out.ok, if_pos rfl]
          have HM3 : Hid (MI w3 w2.heap.size n (stN rs rs.length) D) := HMW.out.chg H3.out.2 fun e => e.2 (.inr ⟨(H1.out.2.2.trans H2.out.2).size, HMW.out.own.lt⟩)
          have HU3 : Hid (Up w0 w3) := H3.out.up HOW.out.upw
          have HRD : Hid (∀ (k : ByteArray) (W : World), Up w3 W → Calls Try.prog 7 #[.pointer (some ⟨p, 0, none⟩), .int .i64 (d.last + 1), .string k] W fun e w' => e = .returned (.tuple #[.int .i64 (stN rs rs.length k), .bool true]) ∧ Up W w') := fun k W hW =>
            rvread_any (H3.out.1.up hW) HTR.out (get_rd (HF.out.rd.beg) H3.out.1.ok rfl rfl k) (stN_bd HF.out.ok (Nat.le_refl _) k).1 (stN_bd HF.out.ok (Nat.le_refl _) k).2
          have HB4 := Lib.hid (Blk.new w3 #[.string ⟨#[120]⟩, .string ⟨#[121]⟩, .string ⟨#[122]⟩] 9)
          have HU4 := Lib.hid ((Up.refl w3).alloc (.cells #[.string ⟨#[120]⟩, .string ⟨#[121]⟩, .string ⟨#[122]⟩] 9))
          generalize (w3.alloc (.cells #[.string ⟨#[120]⟩, .string ⟨#[121]⟩, .string ⟨#[122]⟩] 9)) = w4 at HB4 HU4 ⊢
          clear hzero
          go_loopw [136] (fun iv wj => ∃ k : Nat, k ≤ 3 ∧ iv = .int .i64 k ∧ Up w4 wj) (fun iv _ => 3 - (intOf iv).toNat)
          case atStart => exact ⟨0, by omega, rfl, Up.refl w4⟩
          case round =>
            obtain ⟨k, hk, rfl, hu⟩ := hrel
            obtain ⟨wj, rfl⟩ : ∃ x, x = wr := ⟨_, rfl⟩
            by_cases hlk : k < 3
            · obtain ⟨s, hs, hsz⟩ : ∃ s : ByteArray, (#[Value.string ⟨#[120]⟩, .string ⟨#[121]⟩, .string ⟨#[122]⟩].toList)[k]? = some (.string s) ∧ s.size ≤ 24 := by
                rcases (show k = 0 ∨ k = 1 ∨ k = 2 by omega) with rfl | rfl | rfl
                · exact ⟨_, rfl, by decide⟩
                · exact ⟨_, rfl, by decide⟩
                · exact ⟨_, rfl, by decide⟩
              have kb := (HB4.out.up hu).cell k
              rw [hs] at kb
              have kbl := (HB4.out.up hu).lt
              have HUJ := Lib.hid hu
              have hk3 : (k : Int) < 3 := by omega
              clear hu hs
              go_wp2_with (first
                | (go_at_call 7; refine (HRD.out s _ (by first | exact HU4.out.trans HUJ.out | exact (HU4.out.trans HUJ.out).drew)).mono ?_; rintro e w5 ⟨rfl, h5⟩; have H5 := Lib.hid h5; have hlook := HM3.out.look hsz w5 ((HU4.out.trans HUJ.out).trans h5); clear h5)
                | fail)
              go_roundw
              case rel => exact ⟨k + 1, by omega, by go_num, HUJ.out.trans H5.out⟩
              case measure => simp [intOf]; omega
            · obtain rfl : k = 3 := by omega
              go_wp2
              go_ret
              exact ⟨rfl, (HU3.out.trans HU4.out).trans hu⟩
end Go.Proofs.Ytnbhdpmhgamjfaa.Sn
