/- MVCCReadsAreRepeatable: the walk. -/
import Derived.Test.YtinmpodnfofmdaaMvt
namespace Go.Proofs.Ytinmpodnfofmdaa.Mv
open Go Go.RowKit Hp So
set_option linter.unusedVariables false

/-- A list of records whose blocks are of P. -/
def RecsP (w : World) (P : Nat → Prop) (v : Value) (l : List (ByteArray × List Val)) : Prop :=
  ∃ rs : List RM, rs.map erR = l ∧ Src w 2 v rs.length (rmC rs) ∧ (∀ a n c, v = .slice (some a) n c → P a.block) ∧ ∀ r ∈ rs, Src w 3 r.rv r.row.length (rowC r.row) ∧ r.row.length ≤ 1000 ∧ ∀ a n c, r.rv = .slice (some a) n c → P a.block
theorem RecsP.chg {S P : Nat → Prop} {w w' : World} {v : Value} {l : List (ByteArray × List Val)} (h : RecsP w P v l) (hc : Chg S w w') (hS : ∀ k, P k → ¬ S k) : RecsP w' P v l := by
  obtain ⟨rs, h1, h2, h3, h4⟩ := h
  exact ⟨rs, h1, h2.chg hc fun a n c e => hS _ (h3 a n c e), h3, fun r hr => ⟨(h4 r hr).1.chg hc fun a n c e => hS _ ((h4 r hr).2.2 a n c e), (h4 r hr).2⟩⟩
theorem RecsP.up {P : Nat → Prop} {w w' : World} {v : Value} {l : List (ByteArray × List Val)} (h : RecsP w P v l) (hu : Up w w') : RecsP w' P v l := h.chg (Below.chg (fun _ => False) hu) fun _ _ e => e
theorem RecsP.src {P : Nat → Prop} {w : World} {v : Value} {l : List (ByteArray × List Val)} (h : RecsP w P v l) : RecsS w v l := by
  obtain ⟨rs, h1, h2, h3, h4⟩ := h
  exact ⟨rs, h1, h2, fun r hr => ⟨(h4 r hr).1, (h4 r hr).2.1⟩⟩
theorem RecsR.toP {w : World} {B : Nat} {v : Value} {l : List (ByteArray × List Val)} (h : RecsR w B v l) (hl : ∀ r ∈ l, r.2.length ≤ 1000) : RecsP w (fun k => B ≤ k ∧ k < w.heap.size) v l := by
  obtain ⟨rs, h1, h2, h3, _⟩ := h
  have blk : ∀ {E : TypeId} {size n : Nat} {u : Value} {xs : List Value}, w.ownsRow B E size u n xs → ∀ a n c, u = .slice (some a) n c → B ≤ a.block ∧ a.block < w.heap.size := fun {E size n u xs} ho a n' c e => by
    have hk : u.ownBlock = some a.block := by rw [e]; rfl
    exact ⟨((own_ty ho) _ hk).2, own_lt ho _ hk⟩
  exact ⟨rs, h1, own_src h2, blk h2, fun r hr => ⟨own_src (h3 r hr), by subst h1; exact hl (erR r) (List.mem_map.2 ⟨r, hr, rfl⟩), blk (h3 r hr)⟩⟩
/-- What the rounds keep. -/
def Kept31 (w w2 w3 wr : World) (p n : Nat) (t : Int) (L : List (ByteArray × List Val)) (v : Value) : Prop :=
  ∃ l F, StR wr p l 0 F ∧ HOk l n ∧ scanL l t = L ∧ (∀ j, F j → w.heap.size ≤ j ∧ (j < w2.heap.size ∨ w3.heap.size ≤ j)) ∧ RecsP wr (fun k => w2.heap.size ≤ k ∧ k < w3.heap.size) v L ∧ Up w wr ∧ w3.heap.size ≤ wr.heap.size
theorem Kept31.step {w w2 w3 wr w5 w6 : World} {p n : Nat} {t : Int} {L : List (ByteArray × List Val)} {v : Value} {l l' : List PC} {F : Nat → Prop} (h1 : StR wr p l 0 F) (hF : ∀ j, F j → w.heap.size ≤ j ∧ (j < w2.heap.size ∨ w3.heap.size ≤ j)) (h4 : RecsP wr (fun k => w2.heap.size ≤ k ∧ k < w3.heap.size) v L) (hu : Up w wr) (hz : w3.heap.size ≤ wr.heap.size)
    (h5 : Up wr w5) (h6 : StR w6 p l' 0 (Fx F w5 w6) ∧ Chg F w5 w6) (hk : HOk l' (n + 1)) (hsc : scanL l' t = L) : Kept31 w w2 w3 w6 p (n + 1) t L v := by
  have B := StR.behind h1.lt h5 h6
  refine ⟨l', _, B.1, hk, hsc, fun j hj => ?_, h4.chg B.2 fun k hk e => ?_, ((hu.chg fun _ => False).trans B.2 fun j hj e => by have := (hF j e).1; omega).up fun _ _ e => e, by have := B.2.size; omega⟩
  · rcases hj with hj | hj
    · exact hF j hj
    · have := hu.size; exact ⟨by omega, .inr (by omega)⟩
  · have := (hF k e).2; omega
set_option maxRecDepth 100000 in
set_option maxHeartbeats 4000000 in
theorem walk31 (a : Option Addr) (len cap : Nat) (zs : List Int) (a2 : Option Addr) (len2 cap2 : Nat) (zs2 : List Int) (tim : Int) (w : World) (hE : Elems w a len zs) (hl : len ≤ cap) (hm : cap ≤ 9223372036854775807) (hE2 : Elems w a2 len2 zs2) (hl2 : len2 ≤ cap2) (hm2 : cap2 ≤ 9223372036854775807) :
    Calls Try.prog 5 #[.slice a len cap, .slice a2 len2 cap2, .int .i64 tim] w fun e w' => e = .returned (.bool true) ∧ Up w w' := by
  have HE := Lib.hid hE
  have HE2 := Lib.hid hE2
  obtain ⟨m, hmm, hm1⟩ : ∃ m, min len 100 = m ∧ m ≤ 100 := ⟨_, rfl, Nat.min_le_right _ _⟩
  have HIST := Lib.hid (fun W (hu : Up w W) => history_any a len cap zs W (elems_up HE.out hu) hl hm)
  rw [hmm] at HIST
  have HK := Lib.hid (hist_ok zs m (by omega))
  obtain ⟨l, hll⟩ : ∃ l, l = histL zs m := ⟨_, rfl⟩
  rw [← hll] at HK HIST
  have t1 := modV_nonneg tim ((m : Int) + 1) (by omega)
  have t2 := modV_lt tim ((m : Int) + 1) (by omega)
  obtain ⟨t, ht⟩ : ∃ t, t = modV tim ((m : Int) + 1) := ⟨_, rfl⟩
  rw [← ht] at t1 t2
  have HMT : Hid (∀ W, Calls Try.prog 22 #[.int .i64 tim, .int .i64 ((m : Int) + 1)] W fun e w' => e = .returned (.int .i64 t) ∧ W = w') := fun W => by have := mod_any tim ((m : Int) + 1) W (by omega) (by omega); rwa [← ht] at this
  have HR : Hid ((scanL l t).length ≤ 1000 ∧ ∀ r ∈ scanL l t, r.2.length ≤ 1000) := ⟨by have := scan_len l t; have := HK.out.ok.len; omega, fun r hr => by have := scan_row HK.out.ok _ r hr; omega⟩
  obtain ⟨q, hmin', hq1, hq2⟩ := min_len 100 len2
  have hmin : (if (100 : Int) < (len2 : Int) then (100 : Int) else (len2 : Int)) = (q : Int) := hmin'
  have hqc : (q : Int) ≤ (cap2 : Int) := by omega
  clear hE hE2 hmm ht hll hmin'
  go_enter Try.func5, Try.ntmps5
  go_wp2_with (first
    | (go_at_call 26; refine (scan_any _ _ _ _ _ _ H2.out.1 (by omega)).mono ?_; rintro e w3 ⟨v, rfl, h5, h6⟩; obtain ⟨rs, q1, q2, _, _⟩ := id h5; obtain ⟨ra, rc, rfl, _, _, _⟩ := own_form q2; have H3 := Lib.hid (h5.toP HR.out.2); have H4 := Lib.hid h6; clear h6 q1 q2 h5)
    | (go_at_call 22; refine (HMT.out _).mono ?_; rintro e w' ⟨rfl, rfl⟩)
    | (go_at_call 17; refine (HIST.out _ H1.out).mono ?_; rintro e w2 ⟨p, F, rfl, h2⟩; have H2 : Hid (StR w2 p l 0 F ∧ (∀ k, F k → w.heap.size ≤ k) ∧ Up w1 w2) := ⟨h2.1, fun k hk => Nat.le_trans H1.out.size (h2.2.1 k hk), h2.2.2⟩; clear h2)
    | (go_at_call 16; refine (works_any _).mono ?_; rintro e w1 ⟨rfl, h1⟩; have H1 := Lib.hid h1; clear h1)
    | fail)
  clear hmin
  go_loopw [42] (fun iv wr => ∃ k : Nat, k ≤ q ∧ iv = .int .i64 k ∧ Hid (Kept31 w w2 w3 wr p (m + k) t (scanL l t) (.slice ra rs.length rc))) (fun iv _ => q - (intOf iv).toNat)
  case atStart => exact ⟨0, by omega, rfl, ⟨l, F, H2.out.1.up H4.out, HK.out, rfl, fun j hj => ⟨H2.out.2.1 j hj, .inl (H2.out.1.lt j hj)⟩, H3.out, (H1.out.trans H2.out.2.2).trans H4.out, Nat.le_refl _⟩⟩
  case round =>
    obtain ⟨k, hk, rfl, HKP⟩ := hrel
    obtain ⟨lk, Fk, h1, h2, h3, h4, h5, h6, h7⟩ := HKP.out
    have S1 := Lib.hid h1
    have S2 := Lib.hid h2
    have S3 := Lib.hid h3
    have S4 := Lib.hid h4
    have S5 := Lib.hid h5
    have S6 := Lib.hid h6
    clear h1 h2 h3 h4 h5 h6 HKP
    by_cases hlt : k < q
    · obtain ⟨b, off, rfl, hb, hx⟩ := elems_up HE2.out S6.out k (by omega)
      generalize zs2.getD k 0 = op at hx
      have hmk : m + k < 400 := by omega
      obtain ⟨A1, A2⟩ := S2.out.add hmk op ⟨(m : Int) + 1 + (k : Int), false, rowV (wrap64 (op.tdiv 8))⟩ (by simp [rowV]) (by show (m : Int) + 1 + (k : Int) = ((m + k : Nat) : Int) + 1; omega)
      have HA := Lib.hid A2
      have HN : Hid (HOk (adL lk (keyB op) ⟨(m : Int) + 1 + (k : Int), false, rowV (wrap64 (op.tdiv 8))⟩) (m + k + 1) ∧ scanL (adL lk (keyB op) ⟨(m : Int) + 1 + (k : Int), false, rowV (wrap64 (op.tdiv 8))⟩) t = scanL l t) := ⟨A1, by rw [scan_ad S2.out.ok.srt _ _ A1.ok.srt (by show t < (m : Int) + 1 + (k : Int); omega)]; exact S3.out⟩
      clear A1 A2
      go_wp2_with (first
        | (go_at_call 18; refine (key_any _ _).mono ?_; rintro e w4 ⟨rfl, h2⟩; have K2 := Lib.hid h2; clear h2)
        | (go_at_call 21; refine (row_any _ _).mono ?_; rintro e w5 ⟨rfl, h4, h5⟩; have K4 := Lib.hid h4; have K5 := Lib.hid (K2.out.trans h5); clear h4 h5)
        | (go_at_call 20; refine (put_any _ _ _ _ _ _ _ (rowV (wrap64 (op.tdiv 8))) _ (S1.out.up K5.out) (own_src K4.out) (by simp [rowV])).mono ?_; rw [HA.out]; rintro e w6 ⟨rfl, h3⟩; have K6 := Lib.hid h3; clear h3)
        | fail)
      go_roundw
      case rel => exact ⟨k + 1, by omega, by go_num, Kept31.step S1.out S4.out S5.out S6.out h7 K5.out K6.out HN.out.1 HN.out.2⟩
      case measure => simp [intOf]; omega
    · obtain rfl : k = q := by omega
      go_wp2_with (first
        | (go_at_call 28; refine (eqrecs_any _ _ _ _ (S5.out.up K7.out).src K8.out HR.out.1).mono ?_; rintro e w8 ⟨rfl, h4⟩; have K9 := Lib.hid (K7.out.trans h4); clear h4)
        | (go_at_call 26; refine (scan_any _ _ _ _ _ _ S1.out (by omega)).mono ?_; rw [S3.out]; rintro e w7 ⟨v2, rfl, h5, h6⟩; obtain ⟨rs2, q1, q2, _, _⟩ := id h5; obtain ⟨ra2, rc2, rfl, _, _, _⟩ := own_form q2; have K8 := Lib.hid (h5.src HR.out.2); have K7 := Lib.hid h6; clear h6 q1 q2 h5)
        | fail)
      go_ret
      exact ⟨rfl, S6.out.trans K9.out⟩
end Go.Proofs.Ytinmpodnfofmdaa.Mv
