/- CheckpointRecoversPrefix: what is told of the store and the law's updates. -/
import Derived.Test.YtmaeeidaegigcaaCkr
import Derived.Deep.CutBlock
namespace Go.Proofs.Ytmaeeidaegigcaa.Ck
open Go Go.RowKit Hp So
open Dk (Elems elems_up)
open Wl (Log St)
set_option linter.unusedVariables false

/-- The store stands behind U, of which the first D are synced; the law's row holds V. -/
structure LwS (n : Nat) (w wr : World) (p k : Nat) (uv : Value) (D : Nat) (U V : Ws) (C : Ck) (base us : Ws) (d kk i : Nat) : Prop where
  hold : Hold w wr p C uv V
  cs : Cs n i C base us d
  ni : i ≤ k
  ck : C.cks ≤ k
  bs : base = (U.take kk).foldl apL []
  eus : us = U.drop kk
  nk : kk ≤ U.length
  nd : D ≤ kk + d
  len : U.length ≤ k
  wok : ∀ j, j ≤ U.length → WOk ((U.take j).foldl apL [])
  key : ∀ u ∈ U, u.1.size ≤ 12 ∧ u.2.size ≤ 12
def Lw (n : Nat) (w wr : World) (p k : Nat) (uv : Value) (D : Nat) (U V : Ws) : Prop := ∃ C base us d kk i, LwS n w wr p k uv D U V C base us d kk i
section
variable {n : Nat} {w wr w' : World} {p k : Nat} {uv uv' : Value} {D : Nat} {U V : Ws} {C : Ck} {base us : Ws} {d kk i : Nat}
theorem LwS.ents (h : LwS n w wr p k uv D U V C base us d kk i) : C.ents = U.foldl apL [] := by
  rw [h.cs.ci.ents, h.eus, h.bs, ← List.foldl_append, List.take_append_drop]
theorem LwS.usl (h : LwS n w wr p k uv D U V C base us d kk i) : us.length + kk = U.length := by rw [h.eus, List.length_drop]; have := h.nk; omega
theorem LwS.dl (h : LwS n w wr p k uv D U V C base us d kk i) : d ≤ us.length := by have := h.cs.st.d; rw [List.length_map] at this; exact this
theorem Lw.mv (h : Lw n w wr p k uv D U V) (hu : Up wr w') : Lw n w w' p k uv D U V := by
  obtain ⟨C, base, us, d, kk, i, h⟩ := h
  exact ⟨C, base, us, d, kk, i, { h with hold := h.hold.mv hu }⟩
theorem Lw.succ (h : Lw n w wr p k uv D U V) : Lw n w wr p (k + 1) uv D U V := by
  obtain ⟨C, base, us, d, kk, i, h⟩ := h
  exact ⟨C, base, us, d, kk, i, { h with ni := Nat.le_succ_of_le h.ni, ck := Nat.le_succ_of_le h.ck, len := Nat.le_succ_of_le h.len }⟩
theorem Lw.up (h : Lw n w wr p k uv D U V) : Up w wr := by obtain ⟨C, base, us, d, kk, i, h⟩ := h; exact h.hold.world
theorem Lw.len (h : Lw n w wr p k uv D U V) : U.length ≤ k := by obtain ⟨C, base, us, d, kk, i, h⟩ := h; exact h.len
theorem Lw.dle (h : Lw n w wr p k uv D U V) : D ≤ U.length := by obtain ⟨C, base, us, d, kk, i, h⟩ := h; have := h.nd; have := h.usl; have := h.dl; omega
theorem Lw.wok (h : Lw n w wr p k uv D U V) : ∀ j, j ≤ U.length → WOk ((U.take j).foldl apL []) := by obtain ⟨C, base, us, d, kk, i, h⟩ := h; exact h.wok
theorem Lw.key (h : Lw n w wr p k uv D U V) : ∀ u ∈ U, u.1.size ≤ 12 ∧ u.2.size ≤ 12 := by obtain ⟨C, base, us, d, kk, i, h⟩ := h; exact h.key
theorem Lw.ewok (h : Lw n w wr p k uv D U V) : WOk (U.foldl apL []) := by have := h.wok U.length (Nat.le_refl _); rw [List.take_length] at this; exact this
theorem Lw.own (h : Lw n w wr p k uv D U V) : wr.ownsRow 0 62 2 uv V.length (ec V) := by obtain ⟨C, base, us, d, kk, i, h⟩ := h; obtain ⟨F, _, _, h3, _⟩ := h.hold; exact h3
theorem Lw.app (h : Lw n w wr p k uv D U V) {u : ByteArray × ByteArray} (h1 : w'.ownsRow 0 62 2 uv' (V.length + 1) (ec V ++ [.string u.1, .string u.2])) (hg : wr.grownBy w' uv.ownBlock) (hat : uv'.ownBlock = uv.ownBlock ∨ ∃ g, uv'.ownBlock = some g ∧ wr.heap.size ≤ g) : Lw n w w' p k uv' D U (V ++ [u]) := by
  obtain ⟨C, base, us, d, kk, i, h⟩ := h
  exact ⟨C, base, us, d, kk, i, ⟨h.hold.app h1 hg hat, h.cs, h.ni, h.ck, h.bs, h.eus, h.nk, h.nd, h.len, h.wok, h.key⟩⟩
theorem lwnew (n : Nat) (w : World) (h1 : 4 ≤ n) (h2 : n ≤ 256) :
    Calls Try.prog 32 #[.int .i64 (n : Int)] w fun e w' => ∃ p, e = .returned (.tuple #[.pointer (some ⟨p, 0, none⟩), .int .i64 0]) ∧ Hid (Lw n w w' p 0 (.slice none 0 0) 0 [] []) ∧ Hid (Up w w') := by
  refine (hnew n w h1 h2).mono ?_
  rintro e w' ⟨p, rfl, a1, a2⟩
  exact ⟨p, rfl, ⟨newC n, [], [], 0, 0, 0, a1.out, Cs.new n h1, Nat.le_refl _, Nat.le_refl _, rfl, rfl, Nat.le_refl _, Nat.le_refl _, Nat.le_refl _, fun j _ => by rw [List.take_nil]; exact WOk.nil, fun u hu => by cases hu⟩, a2⟩
theorem Lw.from {w0 : World} (h : Lw n w wr p k uv D U V) (hu : Up w0 w) : Lw n w0 wr p k uv D U V := by
  obtain ⟨C, base, us, d, kk, i, h⟩ := h
  refine ⟨C, base, us, d, kk, i, ⟨?_, h.cs, h.ni, h.ck, h.bs, h.eus, h.nk, h.nd, h.len, h.wok, h.key⟩⟩
  obtain ⟨F, a1, a2, a3, a4, a5⟩ := h.hold
  exact ⟨F, a1, fun k hk => Nat.le_trans hu.size (a2 k hk), a3, fun k hk => ⟨Nat.le_trans hu.size (a4 k hk).1, (a4 k hk).2⟩, hu.trans a5⟩
theorem lwsync (h : Lw n w wr p k uv D U V) :
    Calls Try.prog 37 #[.pointer (some ⟨p, 0, none⟩)] wr fun e w' => e = .returned (.tuple #[]) ∧ Hid (Lw n w w' p (k + 1) uv U.length U V) := by
  obtain ⟨C, base, us, d, kk, i, h⟩ := h
  refine (hsync h.hold h.cs).mono ?_
  rintro e w' ⟨rfl, L', a1, a2⟩
  have := h.ni
  have := h.usl
  exact ⟨rfl, _, base, us, us.length, kk, i + 1, ⟨a2.out, a1.out, by omega, Nat.le_succ_of_le h.ck, h.bs, h.eus, h.nk, by omega, Nat.le_succ_of_le h.len, h.wok, h.key⟩⟩
theorem lwbegin (h : Lw n w wr p k uv D U V) (hk : k ≤ 800) :
    Calls Try.prog 34 #[.pointer (some ⟨p, 0, none⟩)] wr fun e w' => ∃ x, e = .returned (.int .i64 x) ∧ Hid (Lw n w w' p (k + 1) uv D U V) := by
  have h0 := h
  obtain ⟨C, base, us, d, kk, i, h⟩ := h
  have hi := h.ni
  by_cases hn : C.next < 0
  · refine (hbegin h.hold h.cs (by omega) hn).mono ?_
    rintro e w' ⟨rfl, a1, a2⟩
    exact ⟨0, rfl, _, base, us, d, kk, i, ⟨a2.out, a1.out, Nat.le_succ_of_le hi, Nat.le_succ_of_le h.ck, h.bs, h.eus, h.nk, h.nd, Nat.le_succ_of_le h.len, h.wok, h.key⟩⟩
  · refine (hbegin_no h.hold (by omega)).mono ?_
    rintro e w' ⟨rfl, a2⟩
    exact ⟨15, rfl, Lw.succ ⟨C, base, us, d, kk, i, { h with hold := a2.out }⟩⟩
theorem lwstep (h : Lw n w wr p k uv D U V) (hn1 : 4 ≤ n) (hn2 : n ≤ 256) (hk : k ≤ 800) :
    Calls Try.prog 35 #[.pointer (some ⟨p, 0, none⟩)] wr fun e w' => ∃ x y, e = .returned (.tuple #[.bool x, .int .i64 y]) ∧ Hid (Lw n w w' p (k + 1) uv D U V) := by
  obtain ⟨C, base, us, d, kk, i, h⟩ := h
  have hi := h.ni
  have hc := h.ck
  by_cases hn : C.next < 0
  · refine (hstep_no h.hold hn).mono ?_
    rintro e w' ⟨rfl, a2⟩
    exact ⟨_, _, rfl, Lw.succ ⟨C, base, us, d, kk, i, { h with hold := a2.out }⟩⟩
  · obtain ⟨m, h0, h1, h2, h3, h4, h5⟩ := h.cs.ci.nx.resolve_left fun e => by omega
    by_cases hm : m < C.pend.length
    · refine (hstep1 h.hold h.cs m h0 hm (by omega)).mono ?_
      rintro e w' ⟨rfl, a1, a2⟩
      exact ⟨_, _, rfl, _, base, us, d, kk, i, ⟨a2.out, a1.out, Nat.le_succ_of_le hi, Nat.le_succ_of_le hc, h.bs, h.eus, h.nk, h.nd, Nat.le_succ_of_le h.len, h.wok, h.key⟩⟩
    · refine (hstep2 h.hold h.cs (by omega) (by omega) hn1 hn2 (by omega)).mono ?_
      rintro e w' ⟨rfl, L', a1, a2⟩
      have hul := h.usl
      have hdl := h.dl
      have hD := h.nd
      refine ⟨_, _, rfl, _, _, _, _, kk + C.cov, i + 1, ⟨a2.out, a1.out, by omega, by show C.cks + 1 ≤ _; omega, ?_, ?_, by omega, ?_, Nat.le_succ_of_le h.len, h.wok, h.key⟩⟩
      · rw [h2, List.take_add, List.foldl_append, ← h.bs, ← h.eus]
      · rw [h.eus, List.drop_drop]
      · unfold dT
        split <;> omega
theorem lwput (h : Lw n w wr p k uv D U V) (hn1 : 4 ≤ n) (hn2 : n ≤ 256) (hk : k ≤ 800) (op : Int) :
    Calls Try.prog 33 #[.pointer (some ⟨p, 0, none⟩), .int .i64 op] wr fun e w' => ∃ x, e = .returned (.tuple #[.agg #[.string (updB op).1, .string (updB op).2], .int .i64 x]) ∧ ((x = 18 ∧ Hid (Lw n w w' p (k + 1) uv D U V)) ∨ (x = 0 ∧ Hid (Lw n w w' p (k + 1) uv D (U ++ [updB op]) V))) := by
  obtain ⟨C, base, us, d, kk, i, h⟩ := h
  have hi := h.ni
  refine (hput h.hold h.cs hn1 hn2 (by omega) op).mono ?_
  rintro e w' ⟨x, rfl, h1⟩
  refine ⟨x, rfl, ?_⟩
  unfold PutR at h1
  split at h1
  · exact .inl ⟨h1.1, Lw.succ ⟨C, base, us, d, kk, i, { h with hold := h1.2 }⟩⟩
  · obtain ⟨rfl, L', a1, a2⟩ := h1
    have hkk := h.nk
    have hlen := h.len
    have hl : (U ++ [updB op]).length = U.length + 1 := by rw [List.length_append, List.length_singleton]
    have hv := updB_val op
    have hw := a1.ci.ewok
    refine .inr ⟨rfl, _, base, us ++ [updB op], d, kk, i + 1, ⟨a2, a1, by omega, Nat.le_succ_of_le h.ck, ?_, ?_, by omega, h.nd, by omega, fun j hj => ?_, fun u hu => ?_⟩⟩
    · rw [List.take_append_of_le_length hkk]; exact h.bs
    · rw [List.drop_append_of_le_length hkk, h.eus]
    · by_cases hj2 : j ≤ U.length
      · rw [List.take_append_of_le_length hj2]; exact h.wok j hj2
      · rw [List.take_of_length_le (by omega), List.foldl_append, ← h.ents]
        exact hw
    · rcases List.mem_append.1 hu with e | e
      · exact h.key u e
      · rw [List.mem_singleton.1 e]; exact ⟨by rw [updB_key]; decide, by omega⟩
theorem lwall (h : Lw n w wr p k uv D U V) :
    Calls Try.prog 39 #[.pointer (some ⟨p, 0, none⟩)] wr fun e w' => ∃ v, e = .returned v ∧ Hid (w'.ownsRow 0 62 2 v (U.foldl apL []).length (ec (U.foldl apL []))) ∧ Hid (Up wr w') ∧ Hid (Lw n w w' p k uv D U V) := by
  have h0 := h
  obtain ⟨C, base, us, d, kk, i, h⟩ := h
  refine (hall h.hold h.cs).mono ?_
  rintro e w' ⟨v, rfl, a1, a2, a3⟩
  rw [h.ents] at a1
  exact ⟨v, rfl, a1, a2, h0.mv a2.out⟩
theorem lwreplay (h : Lw n w wr p k uv D U V) (v : Value) (j : Nat) (hj : j ≤ U.length) (hk : k ≤ 800) (hs : Src wr 2 v j (ec (U.take j))) :
    Calls Try.prog 40 #[v] wr fun e w' => ∃ v', e = .returned v' ∧ Hid (w'.ownsRow 0 62 2 v' ((U.take j).foldl apL []).length (ec ((U.take j).foldl apL []))) ∧ Hid (Up wr w') := by
  have hl : (U.take j).length = j := by rw [List.length_take]; omega
  have hlen := h.len
  refine replay_any v (U.take j) wr (by rw [hl]; exact hs) (by omega) (fun u hu => h.key u (List.mem_of_mem_take hu)) fun i hi => ?_
  rw [hl] at hi
  rw [List.take_take, Nat.min_eq_left hi]
  exact h.wok i (by omega)
theorem src_pre {w : World} {a : Option Addr} {m c : Nat} {l : Ws} (h : Src w 2 (.slice a l.length c) l.length (ec l)) (hm : m ≤ l.length) : Src w 2 (.slice a m c) m (ec (l.take m)) := by
  obtain ⟨hx, h⟩ := h
  refine ⟨by rw [ec_len, List.length_take]; omega, ?_⟩
  rcases h with ⟨e, h0⟩ | ⟨b, off, cap, e, h1, h2, h3⟩
  · left
    simp only [Value.slice.injEq] at e
    obtain ⟨rfl, _, rfl⟩ := e
    have : m = 0 := by omega
    subst this
    exact ⟨rfl, rfl⟩
  · right
    simp only [Value.slice.injEq, true_and] at e
    obtain ⟨rfl, rfl⟩ := e
    refine ⟨b, off, _, rfl, by omega, h2, fun j u hj => h3 j u ?_⟩
    rw [← ec_take, List.getElem?_take] at hj
    split at hj
    · exact hj
    · cases hj
theorem replay_pre {a : Option Addr} {c m : Nat} (h : wr.ownsRow 0 62 2 (.slice a U.length c) U.length (ec U)) (hm : m ≤ U.length) (hl : U.length ≤ 1000) (hw : ∀ j, j ≤ U.length → WOk ((U.take j).foldl apL [])) (hk : ∀ u ∈ U, u.1.size ≤ 12 ∧ u.2.size ≤ 12) :
    Calls Try.prog 40 #[.slice a m c] wr fun e w' => ∃ v', e = .returned v' ∧ Hid (w'.ownsRow 0 62 2 v' ((U.take m).foldl apL []).length (ec ((U.take m).foldl apL []))) ∧ Hid (Up wr w') := by
  have hl2 : (U.take m).length = m := by rw [List.length_take]; omega
  refine replay_any _ (U.take m) wr (by rw [hl2]; exact src_pre (own_src h) hm) (by omega) (fun u hu => hk u (List.mem_of_mem_take hu)) fun i hi => ?_
  rw [hl2] at hi
  rw [List.take_take, Nat.min_eq_left hi]
  exact hw i (by omega)
theorem lwcrash (h : LwS n w wr p k uv D U V C base us d kk i) (hn1 : 4 ≤ n) (hn2 : n ≤ 256) (hk : k ≤ 800) (cw lw : List Bool) (cv lv : Value) (hcv : Bools w cv cw) (hlv : Bools w lv lw) :
    Calls Try.prog 41 #[.pointer (some ⟨p, 0, none⟩), cv, lv] wr fun e w' => e = .returned (.tuple #[]) ∧ ∃ C' j, d ≤ j ∧ j ≤ us.length ∧ Hid (C'.ents = (U.take (kk + j)).foldl apL []) ∧ Hid (Cs n (i + 1) C' base (us.take j) j) ∧ Hid (Hold w w' p C' uv V) := by
  have hi := h.ni
  have hc := h.ck
  refine (hcrash h.hold h.cs hn1 hn2 (by omega) (by omega) cw lw cv lv hcv hlv).mono ?_
  rintro e w' ⟨rfl, C', j, g1, g2, g3, g4, g5⟩
  refine ⟨rfl, C', j, g1, g2, ?_, g4, g5⟩
  rw [List.take_add, List.foldl_append, ← h.bs, ← h.eus]
  exact g3
/-- .. and what is synced is there. -/
theorem lwcrash2 (h : Lw n w wr p k uv D U V) (hn1 : 4 ≤ n) (hn2 : n ≤ 256) (hk : k ≤ 800) (cw lw : List Bool) (cv lv : Value) (hcv : Bools w cv cw) (hlv : Bools w lv lw) :
    Calls Try.prog 41 #[.pointer (some ⟨p, 0, none⟩), cv, lv] wr fun e w' => e = .returned (.tuple #[]) ∧ ∃ J C' base' us' i' d', D ≤ J ∧ J ≤ U.length ∧ Hid (C'.ents = (U.take J).foldl apL []) ∧ Hid (Cs n i' C' base' us' d') ∧ Hid (Hold w w' p C' uv V) := by
  obtain ⟨C, base, us, d, kk, i, h⟩ := h
  refine (lwcrash h hn1 hn2 hk cw lw cv lv hcv hlv).mono ?_
  rintro e w' ⟨rfl, C', j, g1, g2, g3, g4, g5⟩
  have := h.nd
  have := h.usl
  exact ⟨rfl, kk + j, C', _, _, _, _, by omega, by omega, g3, g4, g5⟩
end
end Go.Proofs.Ytmaeeidaegigcaa.Ck
