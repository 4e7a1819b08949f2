/- The write-ahead log: Truncate. -/
import Derived.Test.YtmaeeidaegigcaaWlf
namespace Go.Proofs.Ytmaeeidaegigcaa.Wl
open Go Go.RowKit Hp
open Dk (Dsk DiskR bc DOk Bytes)
set_option linter.unusedVariables false

/-- What is left behind the first n records. -/
def Log.cutD (L : Log) (n : Nat) : Log := let m := L.ends.getD (n - 1) 0; { L with st := L.st + m, dat := L.dat.drop m, ends := (L.ends.drop n).map (· - m) }
def Log.trunc (L : Log) (n : Nat) : Log := (if (L.cutD n).dat.length = 0 ∧ (L.cutD n).st % 20 = 0 then (L.cutD n).wb ((L.cutD n).st / 20) else L.cutD n).head
theorem src_cut {w : World} {b n c : Nat} {xs : List Value} (h : Dk.Src w 1 (.slice (some ⟨b, 0, none⟩) n c) n xs) (i j a c' : Nat) (hij : i ≤ j) (hj : j ≤ n) (ha : a = i ∨ i = j) (hc : j - i ≤ c') (hc2 : c' ≤ 9223372036854775807) : Dk.Src w 1 (.slice (some ⟨b, a, none⟩) (j - i) c') (j - i) ((xs.take j).drop i) := by
  obtain ⟨hx, h⟩ := h
  refine ⟨by rw [List.length_drop, List.length_take, Nat.mul_one, show min j xs.length = j by omega], .inr ⟨b, a, c', rfl, hc, hc2, fun k u hk => ?_⟩⟩
  have hlt := (List.getElem?_eq_some_iff.1 hk).1
  simp only [List.length_drop, List.length_take] at hlt
  rcases h with ⟨e, _⟩ | ⟨b', off, cap, e, _, _, h3⟩
  · cases e
  · cases e
    have := h3 (i + k) u (by rw [← hk, List.getElem?_drop, List.getElem?_take, if_pos (by omega)])
    rw [show a + k = 0 + (i + k) by omega]
    exact this
set_option maxRecDepth 100000 in
set_option maxHeartbeats 2000000 in
theorem trunc_any (p : Nat) (L : Log) (F : Nat → Prop) (n : Nat) (w : World) (h : LogR w p L F) (hn : 1 ≤ n) (hn2 : n ≤ L.ends.length) (hL : L.ends.length ≤ 100000) (hm1 : 1 ≤ L.ends.getD (n - 1) 0) (hm2 : L.ends.getD (n - 1) 0 ≤ L.dat.length) (hms : ∀ e ∈ L.ends.drop n, L.ends.getD (n - 1) 0 ≤ e) (hme : ∀ e ∈ L.ends, e ≤ 100000) (hb3 : L.st + L.dat.length ≤ 10000000) (hb : 3 ≤ L.dsk.dur.length) (hb2 : L.dsk.dur.length ≤ 256) (hb5 : L.inc < 4294967296) (hb6 : L.hd + 1 < 4294967296) (hb8 : L.dsk.pend.length ≤ 1000) :
    Calls Try.prog 30 #[.pointer (some ⟨p, 0, none⟩), .int .i64 (n : Int)] w fun e w' => e = .returned (.int .i64 0) ∧ LogPost p (L.trunc n) F w w' := by
  have HLT := Lib.hid h.lt
  obtain ⟨q, G, dv, ev, hP⟩ := h
  obtain ⟨va, vc, rfl, hvc1, hvc2, hdl, hdat, _⟩ := own_some hP.dow (by omega)
  obtain ⟨ga, ec, rfl, hec1, hec2, hgl, hgat, hgf⟩ := own_some hP.eow (by omega)
  have c3 := (hP.blk.at (i := 3) rfl).2
  have c4 := (hP.blk.at (i := 4) rfl).2
  have c5 := (hP.blk.at (i := 5) rfl).2
  have f3 := hP.blk.free 3
  have hpl := hP.blk.lt
  have e0 := hgat (n - 1) _ (ic_get L.ends (n - 1) (by omega))
  have hmm : L.ends.getD (n - 1) 0 = L.ends[n - 1]'(by omega) := by rw [List.getD_eq_getElem?_getD, List.getElem?_eq_getElem (by omega)]; rfl
  rw [hmm] at hm1 hm2 hms
  have HMM := Lib.hid hmm
  clear hmm
  generalize L.ends[n - 1] = m at *
  have P0 := Lib.hid (hP.fx0 (Chg.refl F w) HLT.out)
  have d1 : ¬ (n : Int) < 0 := by omega
  have d2 : ¬ (L.ends.length : Int) < (n : Int) := by omega
  have d3 : ¬ (n : Int) = 0 := by omega
  have d4 : ((n : Int) == 0) = false := by rw [beq_eq_false_iff_ne]; exact d3
  clear hP
  go_enter Try.func30, Try.ntmps30
  have hst : IntKind.i64.wrap ((L.st : Int) + (m : Int)) = (L.st : Int) + (m : Int) := IntWalk.i64_in _ (by omega)
  have hml : (m : Int) ≤ (L.dat.length : Int) := by omega
  have P1 := Lib.hid ((P0.out.strt (L.st + m)).1.mono (F' := Fx F w (w.setCell ⟨p, 3, none⟩ (.int .i64 ((L.st + m : Nat) : Int)))) (fun k hk => hk.elim .inl fun e => by omega) (fx_lt HLT.out (P0.out.strt (L.st + m)).2.size))
  have C1 := Lib.hid (show Chg F w _ from (P0.out.strt (L.st + m)).2.mono fun k hk e => e.elim id fun e => by omega)
  rw [show ((L.st + m : Nat) : Int) = (L.st : Int) + (m : Int) by omega] at P1 C1
  have hsrc : Dk.Src (w.setCell ⟨p, 3, none⟩ (.int .i64 ((L.st : Int) + (m : Int)))) 1 (.slice (if vc = m then some ⟨va, 0, none⟩ else some ⟨va, m, none⟩) (L.dat.length - m) (vc - m)) (L.dat.length - m) (bc (L.dat.drop m)) := by
    have hd := fun a ha => src_cut (Dk.own_src P1.out.dow) m L.dat.length a (vc - m) hm2 (Nat.le_refl _) ha (by omega) (Nat.le_trans (Nat.sub_le _ _) hvc2)
    rw [List.take_of_length_le (by simp [bc]), ← List.map_drop] at hd
    by_cases hv : vc = m
    · rw [if_pos hv]
      exact hd 0 (.inr (by omega))
    · rw [if_neg hv]
      exact hd m (.inl rfl)
  have HSRC := Lib.hid hsrc
  have FINC : Hid (∀ {w5 : World} {a5 : Option Addr} (k5 : Nat), w5.ownsRow (w.setCell ⟨p, 3, none⟩ (.int .i64 ((L.st : Int) + (m : Int)))).heap.size 5 1 (.slice a5 (L.dat.length - m) k5) (L.dat.length - m) (bc (L.dat.drop m)) → Up (w.setCell ⟨p, 3, none⟩ (.int .i64 ((L.st : Int) + (m : Int)))) w5 → LogP (w5.setCell ⟨p, 4, none⟩ (.slice a5 (L.dat.length - m) k5)) p (Fx F w (w5.setCell ⟨p, 4, none⟩ (.slice a5 (L.dat.length - m) k5))) { L with st := L.st + m, dat := L.dat.drop m } q G (.slice a5 (L.dat.length - m) k5) (.slice (some ⟨ga, 0, none⟩) L.ends.length ec) ∧ Chg F w (w5.setCell ⟨p, 4, none⟩ (.slice a5 (L.dat.length - m) k5))) := by
    intro w5 a5 k5 h51 h52
    have C5 := chg_set w5 p 4 none (.slice a5 (L.dat.length - m) k5)
    have hp1 := P1.out.blk.lt
    have O5 := own_base' (base' := 0) (own_chg h51 C5 fun k hk e => by have := ((own_ty h51) k hk).2; omega) fun _ _ => Nat.zero_le _
    have O6 : (w5.setCell ⟨p, 4, none⟩ (.slice a5 (L.dat.length - m) k5)).ownsRow 0 5 1 (.slice a5 (L.dat.length - m) k5) (L.dat.drop m).length (bc (L.dat.drop m)) := by rw [List.length_drop]; exact O5
    have key := P1.out.putD (S := (· = p)) (l' := L.dat.drop m) ((Below.chg (· = p) h52).trans C5 fun _ _ e => e) (fun k hk e => .inl e) ((P1.out.blk.up h52).set 4 _) O6 (fun k hk => .inr ((own_ty h51) k hk).2)
    exact LogP.join key C1.out HLT.out
  clear hsrc
  have HMS := Lib.hid hms
  have HME := Lib.hid hme
  have HMM2 := Lib.hid hm2
  clear hms hme
  have P1M := Lib.hid (P1.out)
  go_upto_region 7 with fail
  go_cut [] from 38 to 47 (fun wx => ∃ a5 k5, Hid (LogP wx p (Fx F w wx) { L with st := L.st + m, dat := L.dat.drop m } q G (.slice a5 (L.dat.length - m) k5) (.slice (some ⟨ga, 0, none⟩) L.ends.length ec)) ∧ Hid (Chg F w wx))
  case first =>
    go_wp2_with (first
      | (go_at_call 43; refine (Dk.cloneB_any _ _ _ _ HSRC.out (Dk.bc_one _) (by omega)).mono ?_; rintro e w5 ⟨v5, rfl, h51, h52, _⟩
         have O5 := Lib.hid h51
         obtain ⟨a5, k5, rfl, _, _, _⟩ := own_form h51
         have P5 := Lib.hid (P1.out.ups C1.out h52 HLT.out)
         have U5 := Lib.hid h52
         have x4 := (P5.out.1.blk.at (i := 4) rfl).2
         have x5 := (P5.out.1.blk.at (i := 5) rfl).2
         have xf := P5.out.1.blk.free 4
         have xl := P5.out.1.blk.lt
         clear h51 h52)
      | fail)
    all_goals (go_meet; exact ⟨a5, k5, FINC.out _ O5.out U5.out⟩)
  case rest =>
    obtain ⟨a5, k5, P2, C2⟩ := hcut
    have x3 := (P2.out.blk.at (i := 3) rfl).2
    have x4 := (P2.out.blk.at (i := 4) rfl).2
    have x5 := (P2.out.blk.at (i := 5) rfl).2
    have xf := P2.out.blk.free 5
    have xl := P2.out.blk.lt
    clear c3 c4 c5 f3 hpl e0 hgat hdat HSRC P1 C1 P1M
    have HDL : Hid ((L.dat.drop m).length = L.dat.length - m) := List.length_drop ..
    obtain ⟨D, hD⟩ : ∃ D, D = L.dat.length - m := ⟨_, rfl⟩
    rw [← hD] at P2 x4 HDL
    have HD := Lib.hid hD
    clear hD
    go_upto_region 9 with fail
    go_cut [53, 54, 55] from 48 to 55 (fun s53 s54 s55 wx => ∃ off c, s53 = .slice (some ⟨ga, off, none⟩) (L.ends.length - n) c ∧ s54 = .int .i64 ((L.ends.length - n : Nat) : Int) ∧ s55 = .int .i64 0 ∧ Hid (off = n ∨ L.ends.length - n = 0) ∧ wx = wc)
    case first =>
      by_cases he : ec = n
      · subst he
        go_wp2
        go_meet
        exact ⟨0, 0, by rw [Nat.sub_eq_zero_of_le hec1], by go_num, rfl, .inr (by omega), rfl⟩
      · go_wp2
        go_meet
        exact ⟨_, _, rfl, by go_num, rfl, .inl rfl, rfl⟩
    case rest =>
      obtain ⟨off, c, rfl, rfl, rfl, HOFF, rfl⟩ := hcut
      obtain ⟨N, hN⟩ : ∃ N, N = L.ends.length - n := ⟨_, rfl⟩
      rw [← hN] at HOFF ⊢
      have HN := Lib.hid hN
      clear hN
      obtain ⟨i2, hi2, ha3, ha4, ha5⟩ := info_parts Try.infoI
      have GAT : Hid (∀ k, k < N → ∀ wr, Up wc wr → ∃ e, (L.ends.drop n)[k]? = some e ∧ m ≤ e ∧ e ≤ 100000 ∧ wr.cell? ⟨ga, off + k, none⟩ = some (.int .i64 (e : Int)) ∧ ga < wr.heap.size) := by
        intro k hk wr hu
        have hkn : n + k < L.ends.length := by have := HN.out; omega
        have he : (L.ends.drop n)[k]? = some L.ends[n + k] := by rw [List.getElem?_drop, List.getElem?_eq_getElem hkn]
        have hs := Dk.own_src (own_up P2.out.eow hu)
        obtain ⟨hx, hs⟩ := hs
        rcases hs with ⟨e1, _⟩ | ⟨b', o', cap, e1, _, _, h3⟩
        · cases e1
        · cases e1
          have h4 := h3 (n + k) _ (ic_get L.ends (n + k) hkn)
          rw [Nat.zero_add] at h4
          refine ⟨_, he, HMS.out _ (List.mem_of_getElem? he), HME.out _ (List.getElem_mem _), ?_, h4.1⟩
          rcases HOFF.out with e | e
          · rw [e]; exact h4.2
          · omega
      obtain ⟨es, hes⟩ : ∃ es, es = (L.ends.drop n).map (· - m) := ⟨_, rfl⟩
      have hesl : es.length = N := by rw [hes, List.length_map, List.length_drop]; exact HN.out.symm
      have HEG : Hid (∀ (k : Nat) (e : Nat), (L.ends.drop n)[k]? = some e → es.take (k + 1) = es.take k ++ [e - m]) := by
        intro k e he
        have : es[k]? = some (e - m) := by rw [hes, List.getElem?_map, he]; rfl
        rw [List.take_add_one, this]
        rfl
      have HES := Lib.hid hes
      have HESL := Lib.hid hesl
      have hNb : N ≤ 100000 := by have := HN.out; omega
      have hmb : m ≤ 10000000 := by omega
      clear hes hesl
      have FINE : Hid (∀ {ev' : Value} {wr : World}, wr.ownsRow wc.heap.size 3 1 ev' N (ic (es.take N)) → Up wc wr → LogP (wr.setCell ⟨p, 5, none⟩ ev') p (Fx F w (wr.setCell ⟨p, 5, none⟩ ev')) (L.cutD n) q G (.slice a5 D k5) ev' ∧ Chg F w (wr.setCell ⟨p, 5, none⟩ ev')) := by
        intro ev' wr h1 h2
        rw [← HESL.out, List.take_length] at h1
        have C5 := chg_set wr p 5 none ev'
        have hp1 := P2.out.blk.lt
        have O5 := own_base' (base' := 0) (own_chg h1 C5 fun k hk e => by have := ((own_ty h1) k hk).2; omega) fun _ _ => Nat.zero_le _
        have key := P2.out.putE (S := (· = p)) (l' := es) ((Below.chg (· = p) h2).trans C5 fun _ _ e => e) (fun k hk e => .inl e) ((P2.out.blk.up h2).set 5 _) O5 (fun k hk => .inr ((own_ty h1) k hk).2)
        have := LogP.join key C2.out HLT.out
        rw [show L.cutD n = { L with st := L.st + m, dat := L.dat.drop m, ends := es } by unfold Log.cutD; rw [HMM.out, HES.out]]
        exact this
      go_wp2
      go_loopw [55, 6] (fun kv ev wr => ∃ (k : Nat), k ≤ N ∧ kv = .int .i64 (k : Int) ∧ Hid (wr.ownsRow wc.heap.size 3 1 ev k (ic (es.take k))) ∧ Hid (Up wc wr)) (fun kv _ _ => N - (intOf kv).toNat)
      case atStart => exact ⟨0, Nat.zero_le _, rfl, World.ownsRow_nil _ _ _ _, Up.refl _⟩
      case round =>
        obtain ⟨k, hk, rfl, OE, UE⟩ := hrel
        by_cases hlt : k < N
        · obtain ⟨e, he1, he2, he3, he4, he5⟩ := GAT.out k hlt _ UE.out
          have HE1 := Lib.hid he1
          obtain ⟨ea, ek, rfl, hek1, hek2, _⟩ := own_form OE.out
          have hc1 : (k : Int) < (N : Int) := by omega
          have hme' : (m : Int) ≤ (e : Int) := by omega
          have he6 : (e : Int) ≤ 100000 := by omega
          clear he1
          go_wp2_with (first
            | (at_builtin; refine wpList_append_lies _ rfl (.tmp 59) (.tmp 63) 22 rfl wc.heap.size 3 i2 (.int .i64 0) 1 8 Try.underlying22 hi2 ha3 ha4 ha5 rfl (by decide) (.slice ea k ek) k (ic (es.take k)) rfl (own_up OE.out ((Up.refl _).alloc _)) ⟨wr.heap.size, 0, none⟩ 1 1 [.int .i64 ((e : Int) - (m : Int))] rfl rfl (fun j u hu => cell1 _ _ _ _ rfl j u hu) (by intro u hu; rw [List.mem_singleton.1 hu]; rfl) (by omega) (by unfold maxLen; omega) (by omega) (Nat.le_trans UE.out.size ((Up.refl _).alloc _).size) _ rfl ?_
               intro g13 c13 w13 hown13 hgrow13 hat13 hlt13
               have O13 := Lib.hid hown13
               have U13 : Hid (Up wc w13) := Below.grown (UE.out.trans ((Up.refl _).alloc _)) hgrow13 (Nat.le_trans UE.out.size ((Up.refl _).alloc _).size) (fun j e => ((own_ty OE.out) j e).2)
               clear hown13 hgrow13 hat13)
            | fail)
          go_roundw
          case rel => exact ⟨k + 1, by omega, by go_num, by
            rw [HEG.out k e HE1.out]
            unfold ic
            rw [List.map_append]
            rw [show List.map (fun (n : Nat) => Value.int .i64 (n : Int)) [e - m] = [.int .i64 ((e : Int) - (m : Int))] by simp only [List.map_cons, List.map_nil]; congr 2; omega]
            exact O13.out, U13.out⟩
          case measure => simp [intOf]; omega
        · obtain rfl : k = N := by omega
          have hc1 : ¬ (k : Int) < (k : Int) := by omega
          obtain ⟨ea, ek, rfl, _, _, _⟩ := own_form OE.out
          have P14 := Lib.hid (P2.out.ups C2.out UE.out HLT.out).1
          have y5 := (P14.out.blk.at (i := 5) rfl).2
          have yf := P14.out.blk.free 5
          have yl := P14.out.blk.lt
          have FE := Lib.hid (FINE.out OE.out UE.out)
          have z3 := (FE.out.1.blk.at (i := 3) rfl).2
          have z4 := (FE.out.1.blk.at (i := 4) rfl).2
          have zl := FE.out.1.blk.lt
          have HLR : Hid (LogPost p (L.cutD n) F w (wr.setCell ⟨p, 5, none⟩ (.slice ea k ek))) := ⟨⟨_, _, _, _, FE.out.1⟩, FE.out.2⟩
          go_upto_region 15 with fail
          have HX : Hid ((L.cutD n).dat.length = D ∧ (L.cutD n).st = L.st + m ∧ (L.cutD n).inc = L.inc ∧ (L.cutD n).hd = L.hd ∧ (L.cutD n).dsk = L.dsk) := by
            have h1 := HDL.out
            have h2 := HMM.out
            refine ⟨?_, ?_, rfl, rfl, rfl⟩
            · show (L.dat.drop (L.ends.getD (n - 1) 0)).length = D
              rw [h2]; exact h1
            · show L.st + L.ends.getD (n - 1) 0 = _
              rw [h2]
          have HDB : Hid (L.st + m + D ≤ 10000000) := by have := HD.out; have := HMM2.out; unfold Hid; omega
          have HTR : Hid (L.trunc n = (if (L.cutD n).dat.length = 0 ∧ (L.cutD n).st % 20 = 0 then (L.cutD n).wb ((L.cutD n).st / 20) else L.cutD n).head) := rfl
          obtain ⟨w15, hw15⟩ : ∃ w15, w15 = wr.setCell ⟨p, 5, none⟩ (.slice ea k ek) := ⟨_, rfl⟩
          rw [← hw15] at z3 z4 zl HLR ⊢
          clear FE hw15 y5 yf yl P14 FINE GAT HEG OE UE x3 x4 x5 xf xl P2 C2
          generalize L.cutD n = L3 at *
          obtain ⟨S, hS⟩ : ∃ S, S = L.st + m := ⟨_, rfl⟩
          rw [HX.out.2.1, ← hS] at z3
          rw [← hS] at HX HDB
          clear hS
          have HH : Hid (∀ L4 wx, L4 = L3 ∨ L4 = L3.wb (S / 20) → LogPost p L4 F w wx → Calls Try.prog 44 #[.pointer (some ⟨p, 0, none⟩)] wx fun e w' => e = .returned (.tuple #[]) ∧ LogPost p L4.head F w w') := by
            obtain ⟨e1, e2, e3, e4, e5⟩ := HX.out
            have hsm := HDB.out
            intro L4 wx hL4 hP
            have hf : L4.hd = L3.hd ∧ L4.st = L3.st ∧ L4.inc = L3.inc ∧ 2 ≤ L4.dsk.dur.length := by
              rcases hL4 with rfl | rfl
              · exact ⟨rfl, rfl, rfl, by rw [e5]; omega⟩
              · refine ⟨rfl, rfl, rfl, ?_⟩
                have := (wbs_same L3 (S / 20) 1).2.2.2.2.2
                have h2 : (L3.wb (S / 20)).dsk.dur.length = L3.dsk.dur.length := this
                rw [h2, e5]; omega
            obtain ⟨f1, f2, f3, f4⟩ := hf
            exact (header_any p L4 _ wx hP.1 f4 (by rw [f1, e4]; exact hb6) (by rw [f2, e2]; omega) (by rw [f3, e3]; exact hb5)).mono fun e w' ⟨h1, h2⟩ => ⟨h1, hP.trans h2 HLT.out⟩
          have HB : Hid (D = 0 → S % 20 = 0 → Calls Try.prog 48 #[.pointer (some ⟨p, 0, none⟩), .int .i64 ((S : Int) / 20)] w15 fun e w' => e = .returned (.tuple #[]) ∧ LogPost p (L3.wb (S / 20)) F w w') := by
            obtain ⟨e1, e2, e3, e4, e5⟩ := HX.out
            have hsm := HDB.out
            intro h1 h2
            rw [show (S : Int) / 20 = ((S / 20 : Nat) : Int) by omega]
            exact (block_any p L3 _ (S / 20) w15 HLR.out.1 (by rw [e5]; exact hb) (by rw [e5]; exact hb2) (by omega) (by unfold Log.en; omega) (by rw [e3]; exact hb5) (by rw [e5]; exact hb8)).mono fun e w' ⟨h1, h2⟩ => ⟨h1, HLR.out.trans h2 HLT.out⟩
          have hSb : (S : Int) ≤ 10000000 := by have := HDB.out; omega
          by_cases hD0 : D = 0
          · subst hD0
            by_cases hS0 : S % 20 = 0
            · have q1 : (S : Int) % 20 = 0 := by omega
              have q2 : (S : Int).tmod 20 = 0 := by rw [Int.tmod_eq_emod_of_nonneg (by omega)]; exact q1
              have HB1 := Lib.hid (HB.out rfl hS0)
              have HT1 : Hid (L.trunc n = (L3.wb (S / 20)).head) := by unfold Hid; rw [HTR.out, HX.out.1, HX.out.2.1, if_pos ⟨rfl, hS0⟩]
              go_wp2_with (first
                | (go_at_call 48; refine HB1.out.mono ?_; rintro e w6 ⟨rfl, h6⟩; have HH1 := Lib.hid (HH.out _ _ (.inr rfl) h6); clear h6)
                | (go_at_call 44; refine HH1.out.mono ?_; rintro e w7 ⟨rfl, h7⟩; have P7 := Lib.hid h7; clear h7)
                | fail)
              go_ret
              exact ⟨rfl, by rw [HT1.out]; exact P7.out⟩
            · have q1 : ¬ (S : Int) % 20 = 0 := by omega
              have q2 : ¬ (S : Int).tmod 20 = 0 := by rw [Int.tmod_eq_emod_of_nonneg (by omega)]; exact q1
              have HH1 := Lib.hid (HH.out _ _ (.inl rfl) HLR.out)
              have HT1 : Hid (L.trunc n = L3.head) := by unfold Hid; rw [HTR.out, HX.out.1, HX.out.2.1, if_neg (fun h => hS0 h.2)]
              go_wp2_with (first
                | (go_at_call 44; refine HH1.out.mono ?_; rintro e w7 ⟨rfl, h7⟩; have P7 := Lib.hid h7; clear h7)
                | fail)
              go_ret
              exact ⟨rfl, by rw [HT1.out]; exact P7.out⟩
          · have q1 : ¬ (D : Int) = 0 := by omega
            have HH1 := Lib.hid (HH.out _ _ (.inl rfl) HLR.out)
            have HT1 : Hid (L.trunc n = L3.head) := by unfold Hid; rw [HTR.out, HX.out.1, HX.out.2.1, if_neg (fun h => hD0 h.1)]
            go_wp2_with (first
              | (go_at_call 44; refine HH1.out.mono ?_; rintro e w7 ⟨rfl, h7⟩; have P7 := Lib.hid h7; clear h7)
              | fail)
            go_ret
            exact ⟨rfl, by rw [HT1.out]; exact P7.out⟩
end Go.Proofs.Ytmaeeidaegigcaa.Wl
