/- The write-ahead log: Records. -/
import Derived.Test.YtmaeeidaegigcaaWlg
namespace Go.Proofs.Ytmaeeidaegigcaa.Wl
open Go Go.RowKit Hp
open Dk (Dsk DiskR bc DOk Bytes)
set_option linter.unusedVariables false

def recsG (dat : List Int) : Nat → List Nat → List (List Int)
  | _, [] => []
  | b, e :: es => (dat.take e).drop (b + 2) :: recsG dat e es
def endsOk (n : Nat) : Nat → List Nat → Prop
  | _, [] => True
  | b, e :: es => b + 2 ≤ e ∧ e ≤ n ∧ endsOk n e es
def Log.recs (L : Log) : List (List Int) := recsG L.dat 0 L.ends
theorem recsG_len (dat : List Int) : ∀ (b : Nat) (es : List Nat), (recsG dat b es).length = es.length
  | _, [] => rfl
  | b, e :: es => congrArg (· + 1) (recsG_len dat e es)
theorem recsG_get (dat : List Int) : ∀ (b : Nat) (es : List Nat) (k : Nat) (hk : k < es.length), (recsG dat b es)[k]? = some ((dat.take (es.getD k 0)).drop ((b :: es).getD k 0 + 2))
  | _, [], _, hk => absurd hk (Nat.not_lt_zero _)
  | b, e :: es, 0, _ => rfl
  | b, e :: es, k + 1, hk => by
    show (recsG dat e es)[k]? = _
    rw [recsG_get dat e es k (by simpa using hk)]
    rfl
theorem endsOk_get (n : Nat) : ∀ (b : Nat) (es : List Nat) (k : Nat) (hk : k < es.length), endsOk n b es → (b :: es).getD k 0 + 2 ≤ es.getD k 0 ∧ es.getD k 0 ≤ n
  | _, [], _, hk, _ => absurd hk (Nat.not_lt_zero _)
  | b, e :: es, 0, _, h => ⟨h.1, h.2.1⟩
  | b, e :: es, k + 1, hk, h => endsOk_get n e es k (by simpa using hk) h.2.2
/-- Records, each in a row of its own. -/
def PcR (w : World) (B : Nat) (xs : List Value) (rs : List (List Int)) : Prop :=
  xs.length = rs.length ∧ ∀ i (h : i < rs.length), ∃ x, xs[i]? = some x ∧ w.ownsRow B 5 1 x rs[i].length (bc rs[i])
def RecP (w : World) (B : Nat) (v : Value) (rs : List (List Int)) : Prop := ∃ xs, w.ownsRow B 28 1 v rs.length xs ∧ PcR w B xs rs
theorem PcR.same {w w' : World} {B : Nat} {xs : List Value} {rs : List (List Int)} (h : PcR w B xs rs) (hR : ∀ x (r : List Int), w.ownsRow B 5 1 x r.length (bc r) → w'.ownsRow B 5 1 x r.length (bc r)) : PcR w' B xs rs :=
  ⟨h.1, fun i hi => by obtain ⟨x, a, b⟩ := h.2 i hi; exact ⟨x, a, hR _ _ b⟩⟩
theorem PcR.snoc {w : World} {B : Nat} {xs : List Value} {rs : List (List Int)} {x : Value} {r : List Int} (h : PcR w B xs rs) (hx : w.ownsRow B 5 1 x r.length (bc r)) : PcR w B (xs ++ [x]) (rs ++ [r]) := by
  refine ⟨by simp [h.1], fun i hi => ?_⟩
  rw [List.length_append, List.length_singleton] at hi
  by_cases hl : i < rs.length
  · obtain ⟨y, a, b⟩ := h.2 i hl
    exact ⟨y, by rw [List.getElem?_append_left (by rw [h.1]; exact hl)]; exact a, by rw [List.getElem_append_left hl]; exact b⟩
  · have hi2 : i = rs.length := by omega
    subst hi2
    exact ⟨x, by rw [← h.1]; simp, by simpa using hx⟩
theorem RecP.up {w w' : World} {B : Nat} {v : Value} {rs : List (List Int)} (h : RecP w B v rs) (hu : Up w w') : RecP w' B v rs := by
  obtain ⟨xs, h1, h2⟩ := h
  exact ⟨xs, own_up h1 hu, h2.same fun x r hx => own_up hx hu⟩
theorem own_far {W w5 : World} {b b' s s' n n' : Nat} {v v' : Value} {xs xs' : List Value} {E T : TypeId} (hv : W.ownsRow b E s v n xs) (hr : W.ownsRow b' T s' v' n' xs') (hne : E ≠ T) (hg : W.grownBy w5 v'.ownBlock) : w5.ownsRow b E s v n xs :=
  own_chg hv ((Chg.refl (fun j => v'.ownBlock = some j) W).grown hg fun k hk => .inl hk) fun k hk e => ((own_ty hv) k hk).1.ne hne ((own_ty hr) k e).1
theorem Try.infoS : (Try.prog.info? 28).map (fun i => (i.zero, i.size, i.bytes)) = some (some (.slice none 0 0), 1, 24) := by kernel_rfl
set_option maxRecDepth 100000 in
set_option maxHeartbeats 2000000 in
theorem recs_any (p : Nat) (L : Log) (F : Nat → Prop) (w : World) (h : LogR w p L F) (he : endsOk L.dat.length 0 L.ends) (hL : L.ends.length ≤ 100000) (hD : L.dat.length ≤ 10000000) :
    Calls Try.prog 26 #[.pointer (some ⟨p, 0, none⟩)] w fun e w' => ∃ v, e = .returned v ∧ RecP w' w.heap.size v L.recs ∧ Up w w' := by
  obtain ⟨q, G, dv, ev, hP⟩ := h
  have P0 := Lib.hid hP
  obtain ⟨va, vc, rfl, hvc1, hvc2, hvn⟩ := own_form hP.dow
  obtain ⟨ga, ec, rfl, hec1, hec2, hgn⟩ := own_form hP.eow
  have c4 := (hP.blk.at (i := 4) rfl).2
  have c5 := (hP.blk.at (i := 5) rfl).2
  have hpl := hP.blk.lt
  clear hP
  obtain ⟨i2, hi2, ha3, ha4, ha5⟩ := info_parts Try.infoS
  have GAT : Hid (∀ k, k < L.ends.length → ∃ g e b, ga = some ⟨g, 0, none⟩ ∧ L.ends.getD k 0 = e ∧ (0 :: L.ends).getD k 0 = b ∧ b + 2 ≤ e ∧ e ≤ L.dat.length ∧ ∀ wr, Up w wr → wr.cell? ⟨g, k, none⟩ = some (.int .i64 (e : Int)) ∧ g < wr.heap.size) := by
    intro k hk
    obtain ⟨h1, h2⟩ := endsOk_get _ 0 L.ends k hk he
    obtain ⟨g, c, hv, _⟩ := own_some P0.out.eow (by omega)
    cases hv
    refine ⟨g, _, _, rfl, rfl, rfl, h1, h2, fun wr hu => ?_⟩
    obtain ⟨hx, hs⟩ := Dk.own_src (own_up P0.out.eow hu)
    rcases hs with ⟨e1, _⟩ | ⟨b', o', cap, e1, _, _, h3⟩
    · cases e1
    · cases e1
      have h4 := h3 k _ (ic_get L.ends k hk)
      rw [Nat.zero_add] at h4
      rw [show L.ends.getD k 0 = L.ends[k] by simp [hk]]
      exact ⟨h4.2, h4.1⟩
  have HRG := Lib.hid (fun k hk => recsG_get L.dat 0 L.ends k hk)
  have HRL : Hid (L.recs.length = L.ends.length) := recsG_len ..
  have HTK : Hid (∀ (k : Nat) (r : List Int), L.recs[k]? = some r → L.recs.take (k + 1) = L.recs.take k ++ [r]) := by
    intro k r hr
    rw [List.take_add_one, hr]
    rfl
  have HE := Lib.hid he
  clear he
  go_enter Try.func26, Try.ntmps26
  go_wp2
  go_loopw [12, 3, 4] (fun kv rv bv wr => ∃ (k : Nat), k ≤ L.ends.length ∧ kv = .int .i64 (k : Int) ∧ bv = .int .i64 (((0 :: L.ends).getD k 0 : Nat) : Int) ∧ Hid (RecP wr w.heap.size rv (L.recs.take k)) ∧ Hid (Up w wr)) (fun kv _ _ _ => L.ends.length - (intOf kv).toNat)
  case atStart => exact ⟨0, Nat.zero_le _, rfl, rfl, ⟨[], World.ownsRow_nil _ _ _ _, rfl, fun i hi => absurd hi (Nat.not_lt_zero _)⟩, Up.refl _⟩
  case round =>
    obtain ⟨k, hk, rfl, rfl, OR, UR⟩ := hrel
    have x4 := (UR.out.cell (p := ⟨p, 4, none⟩) hpl).trans c4
    have xl := Nat.lt_of_lt_of_le hpl UR.out.size
    by_cases hlt : k < L.ends.length
    · obtain ⟨g, e, b, rfl, he1, hb1, hbe, hel, hcell⟩ := GAT.out k hlt
      obtain ⟨y4, yl⟩ := hcell _ UR.out
      obtain ⟨va, vc', hv, _, _, _, _, _⟩ := own_some P0.out.dow (by omega)
      cases hv
      have HB1 := Lib.hid hb1
      have HE1 := Lib.hid he1
      rw [hb1]
      clear hb1 he1 hcell
      have hc1 : (k : Int) < (L.ends.length : Int) := by omega
      have hb2 : (b : Int) + 2 ≤ (e : Int) := by omega
      have hb3 : (e : Int) ≤ 10000000 := by omega
      obtain ⟨xs, OX, PX⟩ := OR.out
      have hkl : (L.recs.take k).length = k := by rw [List.length_take, HRL.out]; omega
      rw [hkl] at OX
      clear hkl
      obtain ⟨ra, rk, rfl, _, _, _⟩ := own_form OX
      have OX := Lib.hid OX
      have PX := Lib.hid PX
      obtain ⟨n, hn⟩ : ∃ n, n = e - (b + 2) := ⟨_, rfl⟩
      obtain ⟨r, hr⟩ : ∃ r, r = (L.dat.take e).drop (b + 2) := ⟨_, rfl⟩
      have hsrc : Dk.Src wr 1 (.slice (if vc = b + 2 then some ⟨va, 0, none⟩ else some ⟨va, b + 2, none⟩) (e - (b + 2)) (vc - (b + 2))) (e - (b + 2)) (bc r) := by
        have hd := fun a ha => src_cut (Dk.own_src (own_up P0.out.dow UR.out)) (b + 2) e a (vc - (b + 2)) hbe hel ha (by omega) (Nat.le_trans (Nat.sub_le _ _) hvc2)
        rw [hr, show bc ((L.dat.take e).drop (b + 2)) = ((bc L.dat).take e).drop (b + 2) by unfold bc; rw [List.map_drop, List.map_take]]
        by_cases hv : vc = b + 2
        · rw [if_pos hv]
          exact hd 0 (.inr (by omega))
        · rw [if_neg hv]
          exact hd (b + 2) (.inl rfl)
      have hrl : r.length = n := by rw [hr, hn, List.length_drop, List.length_take]; omega
      have hrk : L.recs[k]? = some r := by rw [hr, ← HE1.out, ← HB1.out]; exact HRG.out k hlt
      have hnx : (0 :: L.ends).getD (k + 1) 0 = e := HE1.out
      rw [← hn] at hsrc
      have hn5 : n * 1 ≤ 140737488355328 := by omega
      have HSRC := Lib.hid hsrc
      have HRR := Lib.hid hrl
      have HRK := Lib.hid hrk
      have HNX := Lib.hid hnx
      have HBE := Lib.hid hbe
      have HN := Lib.hid hn
      have HR := Lib.hid hr
      clear hsrc hrl hrk hnx hn hr
      go_wp2_with (first
        | (go_at_call 43; rw [← HN.out]; refine (Dk.cloneB_any _ _ _ _ HSRC.out (Dk.bc_one _) hn5).mono ?_; rintro ee w5 ⟨v5, rfl, h51, h52, _⟩
           have O5 := Lib.hid h51
           have U5 := Lib.hid h52
           obtain ⟨a5, k5, rfl, _, _, _⟩ := own_form h51
           clear h51 h52)
        | (at_builtin; refine wpList_append_lies _ rfl (.tmp 16) (.tmp 26) 48 rfl w.heap.size 28 i2 (.slice none 0 0) 1 24 Try.underlying48 hi2 ha3 ha4 ha5 rfl (by decide) (.slice ra k rk) k xs rfl (own_up OX.out (U5.out.alloc _)) ⟨w5.heap.size, 0, none⟩ 1 1 [.slice a5 n k5] rfl rfl (fun j u hu => cell1 _ _ _ _ rfl j u hu) (by intro u hu; rw [List.mem_singleton.1 hu]; rfl) (by omega) (by unfold maxLen; omega) (by omega) (Nat.le_trans (UR.out.trans U5.out).size ((Up.refl w5).alloc _).size) _ rfl ?_
           intro g13 c13 w13 hown13 hgrow13 hat13 hlt13
           have U13 : Hid (Up w w13) := Below.grown ((UR.out.trans U5.out).alloc _) hgrow13 (Nat.le_trans (UR.out.trans U5.out).size ((Up.refl w5).alloc _).size) (fun j e => ((own_ty OX.out) j e).2)
           have R13 : Hid (RecP w13 w.heap.size (.slice (some ⟨g13, 0, none⟩) (k + 1) c13) (L.recs.take (k + 1))) := by
             have far : ∀ x (r : List Int), wr.ownsRow w.heap.size 5 1 x r.length (bc r) → w13.ownsRow w.heap.size 5 1 x r.length (bc r) := fun x r hx => own_far (own_up hx (U5.out.alloc _)) (own_up OX.out (U5.out.alloc _)) (by decide) hgrow13
             have h5 := O5.out
             rw [← HRR.out] at h5
             have h6 := own_far (own_up (own_base' (base' := w.heap.size) h5 fun j hj => Nat.le_trans UR.out.size ((own_ty h5) j hj).2) ((Up.refl w5).alloc (.cells #[.slice a5 n k5] 28))) (own_up OX.out (U5.out.alloc _)) (by decide) hgrow13
             rw [HRR.out] at h6
             have hl1 : (L.recs.take (k + 1)).length = k + 1 := by rw [List.length_take, HRL.out]; omega
             refine ⟨xs ++ [.slice a5 n k5], by rw [hl1]; exact hown13, ?_⟩
             rw [HTK.out k r HRK.out]
             exact (PX.out.same far).snoc (by rw [HRR.out]; exact h6)
           clear hown13 hgrow13 hat13)
        | fail)
      go_roundw
      case rel => exact ⟨k + 1, hlt, by go_num, by rw [HNX.out], R13.out, U13.out⟩
      case measure => simp [intOf]; omega
    · obtain rfl : k = L.ends.length := by omega
      have hc1 : ¬ (L.ends.length : Int) < (L.ends.length : Int) := by omega
      have R := OR.out
      rw [← HRL.out, List.take_length] at R
      have OR := Lib.hid R
      clear R
      go_wp2
      go_ret
      exact ⟨_, rfl, OR.out, UR.out⟩
end Go.Proofs.Ytmaeeidaegigcaa.Wl
