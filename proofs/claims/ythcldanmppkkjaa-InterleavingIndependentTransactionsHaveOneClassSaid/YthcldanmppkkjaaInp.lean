/- Interleavings: transactions that access different keys have one class. -/
import Derived.Test.YthcldanmppkkjaaIno
import Derived.Test.YthcldanmppkkjaaInm
namespace Go.Proofs.Ythcldanmppkkjaa.In
open Go Go.RowKit Hp
set_option linter.unusedVariables false

/-- One operation's key is put anew. -/
theorem TxO.setKey {w : World} {base h9 i j m c9 : Nat} {v : Value} {us : List Value} {L : List (List Hop)} (h : TxO w base v us L) (hi : i < L.length) (hut : us[i]? = some (.slice (some ⟨h9, 0, none⟩) m c9)) (hj : j < L[i].length) (k : ByteArray) :
    TxO (w.setCell ⟨h9, j * 3 + 2, none⟩ (.string k)) base v us (L.set i (L[i].set j ⟨L[i][j].tx, L[i][j].kind, k⟩)) := by
  obtain ⟨u0, hu0, ho0⟩ := h.rows i hi
  rw [hut] at hu0
  cases hu0
  have hty := own_ty ho0
  have hcs := chg_set w h9 (j * 3 + 2) none (.string k)
  have hm : m = L[i].length := by
    obtain ⟨a, c, e, _⟩ := own_form ho0
    simp only [Value.slice.injEq] at e
    exact e.2.1
  subst hm
  refine ⟨?_, fun a ha => ?_, h.dis⟩
  · have := own_chg h.row hcs fun k hk e => by
      subst e
      exact ((own_ty h.row) k hk).1.ne (by decide) (hty k rfl).1
    rw [List.length_set]
    exact this
  · rw [List.length_set] at ha
    by_cases e : i = a
    · subst e
      refine ⟨_, hut, ?_⟩
      rw [List.getElem_set_self]
      unfold OpsO
      have hs := fm_set (f := hp1) (k := 3) (fun _ => rfl) L[i] j 2 hj (by omega) (.string k) ⟨L[i][j].tx, L[i][j].kind, k⟩ rfl
      unfold hpC
      rw [List.length_set, ← hs]
      exact own_set ho0 (j * 3 + 2) (by rw [hpC_len]; omega) (.string k)
    · obtain ⟨u, h1, h2⟩ := h.rows a ha
      refine ⟨u, h1, ?_⟩
      rw [List.getElem_set_ne e]
      refine own_chg h2 hcs fun k hk e2 => ?_
      subst e2
      exact h.dis a i u _ h1 hut (Ne.symm e) k hk rfl
theorem TxO.row3 {w : World} {base n : Nat} {v : Value} {us : List Value} {L : List (List Hop)} (h : TxO w base v us L) (h3 : L.length = n) : w.ownsRow base 30 1 v n us := by
  have := h.row
  rw [h3] at this
  exact this
/-- Whose keys have been put: the transactions before i, and of i the first j operations. -/
def KeyL (L : List (List Hop)) (i j : Nat) : Prop := ∀ a (ha : a < L.length) b (hb : b < L[a].length), (a < i ∨ (a = i ∧ b < j)) → L[a][b].key = keyB (a : Int)
theorem KeyL.next {L : List (List Hop)} {i j : Nat} (h : KeyL L i j) (hn : ∀ hi : i < L.length, L[i].length ≤ j) : KeyL L (i + 1) 0 := fun a ha b hb hab => by
  refine h a ha b hb ?_
  rcases Nat.lt_or_ge a i with e | e
  · exact .inl e
  · obtain rfl : a = i := by omega
    exact .inr ⟨rfl, Nat.lt_of_lt_of_le hb (hn ha)⟩
theorem KeyL.set {L : List (List Hop)} {i j : Nat} (h : KeyL L i j) (hi : i < L.length) (hj : j < L[i].length) : KeyL (L.set i (L[i].set j ⟨L[i][j].tx, L[i][j].kind, keyB (i : Int)⟩)) i (j + 1) := fun a ha b hb hab => by
  rw [List.length_set] at ha
  by_cases e : i = a
  · subst e
    simp only [List.getElem_set_self] at hb ⊢
    rw [List.length_set] at hb
    by_cases e2 : j = b
    · subst e2; rw [List.getElem_set_self]
    · rw [List.getElem_set_ne e2]
      exact h i ha b hb (by omega)
  · simp only [List.getElem_set_ne e] at hb ⊢
    exact h a ha b hb (by omega)
theorem PrgL.setKey {L : List (List Hop)} {T i j : Nat} (h : PrgL L T) (hi : i < L.length) (hj : j < L[i].length) {k : ByteArray} (hk : k.size ≤ 24) : PrgL (L.set i (L[i].set j ⟨L[i][j].tx, L[i][j].kind, k⟩)) T := by
  have hl : ∀ (L : List (List Hop)) (i : Nat) (hi : i < L.length) (l : List Hop), l.length = L[i].length → (L.set i l).flatten.length = L.flatten.length := by
    intro L
    induction L with
    | nil => intro i hi; cases hi
    | cons a L ih =>
      intro i hi l hl
      cases i with
      | zero =>
        have : l.length = a.length := hl
        simp [this]
      | succ i =>
        have := ih i (by simpa using hi) l hl
        simp only [List.set_cons_succ, List.flatten_cons, List.length_append, this]
  refine ⟨by simpa using h.len, by rw [hl L i hi _ (by simp)]; exact h.tot, fun a ha x hx => ?_⟩
  rw [List.length_set] at ha
  rw [List.getElem_set] at hx
  split at hx
  · rename_i e
    subst e
    rcases List.mem_or_eq_of_mem_set hx with e | e
    · exact h.ok i ha x e
    · have := h.ok i ha _ (List.getElem_mem hj)
      rw [e]
      exact ⟨this.1, this.2.1, hk⟩
  · exact h.ok a ha x hx
theorem key_ne : ∀ i j : Nat, i < 3 → j < 3 → i ≠ j → keyB (i : Int) ≠ keyB (j : Int) := by
  intro i j hi hj hne
  have key : ∀ (i j : Fin 3), i ≠ j → keyB ((i : Nat) : Int) ≠ keyB ((j : Nat) : Int) := by decide +kernel
  exact key ⟨i, hi⟩ ⟨j, hj⟩ (fun e => hne (by simpa using e))
theorem keyed_one {L : List (List Hop)} (hp : PrgL L 12) (hk : KeyL L 3 0) : (sch L).length = 1 ∧ serN L = 1 := by
  refine sch_one (hp.valid (Nat.le_refl _)) fun i j hi hj hne a ha b hb => ?_
  have h3 := hp.len
  have e1 : L.getD i [] = L[i] := by simp [List.getD, hi]
  have e2 : L.getD j [] = L[j] := by simp [List.getD, hj]
  rw [e1] at ha
  rw [e2] at hb
  obtain ⟨p, hp', rfl⟩ := List.getElem_of_mem ha
  obtain ⟨q, hq', rfl⟩ := List.getElem_of_mem hb
  rw [hk i hi p hp' (.inl (by omega)), hk j hj q hq' (.inl (by omega))]
  exact key_ne i j (by omega) (by omega) hne
set_option maxRecDepth 100000 in
set_option maxHeartbeats 4000000 in
theorem walk17 (a2 : Option Addr) (len2 cap2 : Nat) (z2 : List Int) (w : World) (hE : Elems w a2 len2 z2) (hl : len2 ≤ cap2) (hm : cap2 ≤ 9223372036854775807) :
    Calls Try.prog 4 #[.slice a2 len2 cap2] w fun e w' => e = .returned (.bool true) ∧ Up w w' := by
  have HE := Lib.hid hE
  clear hE
  have HC := Lib.hid (fun v (w : World) L (h : TxR w 0 v L) (hp : PrgL L 12) (hk : KeyL L 3 0) => show Calls Try.prog 9 #[v] w fun e w' => e = .returned (.tuple #[.int .i64 1, .int .i64 1, .int .i64 0]) ∧ Up w w' by
    have h1 := count_any v L w h (hp.valid (Nat.le_refl _))
    rw [(keyed_one hp hk).1, (keyed_one hp hk).2] at h1
    exact h1)
  go_enter Try.func4, Try.ntmps4
  go_wp2_with (first
    | (go_at_call 8; refine (programs_any 12 (by decide) a2 len2 cap2 z2 _ (elems_up HE.out U1.out) hl hm).mono ?_; rintro e w2 ⟨g, us, L0, rfl, h1, h2, h3⟩; have T0 := Lib.hid h1; have P0 := Lib.hid h2; have U2 := Lib.hid h3; clear h1 h2 h3)
    | (go_at_call 7; refine (works_any _).mono ?_; rintro e w1 ⟨rfl, h1⟩; have U1 := Lib.hid h1; clear h1)
    | fail)
  go_loopw [15] (fun iv wr => ∃ (k : Nat) (L : List (List Hop)), k ≤ 3 ∧ iv = .int .i64 k ∧ Hid (TxO wr w1.heap.size (.slice (some ⟨g, 0, none⟩) 3 3) us L) ∧ Hid (PrgL L 12) ∧ Hid (KeyL L k 0) ∧ Hid (Up w1 wr)) (fun iv _ => 3 - (intOf iv).toNat)
  case atStart => exact ⟨0, L0, by omega, rfl, T0.out, P0.out, fun a _ b _ h => by omega, U2.out⟩
  case round =>
    obtain ⟨k, L, hk, rfl, HT, HP, HK, HU⟩ := hrel
    by_cases hlt : k < 3
    · have hlti : (k : Int) < 3 := by omega
      have h3 := HP.out.len
      have hkl : k < L.length := by omega
      obtain ⟨u, hu, hou⟩ := HT.out.rows k hkl
      have HUK := Lib.hid hu
      have c0 := own_cell (HT.out.row3 h3) hu
      have hgl := own_glt (HT.out.row3 h3)
      obtain ⟨ua, uc, rfl, hv1, hv2, hv3⟩ := own_form hou
      obtain ⟨n, hn⟩ : ∃ n, n = L[k].length := ⟨_, rfl⟩
      have hn12 : n ≤ 12 := by
        have h1 := mem_len (L := L) (HP.out.tot) k
        rw [show L.getD k [] = L[k] by simp [List.getD, hkl]] at h1
        omega
      have HN : Hid (∃ h : k < L.length, L[k].length = n) := ⟨hkl, hn.symm⟩
      rw [← hn] at c0 HUK
      obtain ⟨wo, rfl⟩ : ∃ x, x = wr := ⟨_, rfl⟩
      clear hou hu h3 hn hv1 hv2 hv3
      go_wp2
      go_loopw [23] (fun iv wr => ∃ (q : Nat) (L : List (List Hop)), q ≤ n ∧ iv = .int .i64 q ∧ Hid (TxO wr w1.heap.size (.slice (some ⟨g, 0, none⟩) 3 3) us L) ∧ Hid (PrgL L 12) ∧ Hid (KeyL L k q) ∧ Hid (∃ h : k < L.length, L[k].length = n) ∧ Hid (Up w1 wr)) (fun iv _ => n - (intOf iv).toNat)
      case atStart => exact ⟨0, L, by omega, rfl, HT.out, HP.out, HK.out, HN.out, HU.out⟩
      case round =>
        clear c0 hgl
        obtain ⟨q, L', hq, rfl, HT2, HP2, HK2, HN2, HU2⟩ := hrel
        by_cases hqn : q < n
        · have hqi : (q : Int) < (n : Int) := by omega
          obtain ⟨hkl, hln⟩ := HN2.out
          obtain ⟨u, hu, hou⟩ := HT2.out.rows k hkl
          have hu9 := HUK.out
          rw [hu9] at hu
          cases hu
          obtain ⟨h9, c9, hs9, hb9, hb8, hl9, hc9, hf9⟩ := own_some hou (by omega)
          simp only [Value.slice.injEq] at hs9
          obtain ⟨rfl, hs8, rfl⟩ := hs9
          clear hs8 hb8 hb9
          have f9 := hf9 (q * 3 + 2)
          have x9 := hc9 _ _ (hpC_get L'[k] q (by omega)).2.2
          have tg := (own_ty HT2.out.row g rfl).1
          have t9 := (own_ty hou h9 rfl)
          have hne : ¬ h9 = g := fun e => by subst e; exact t9.1.ne (by decide) tg
          have c0 := own_cell (HT2.out.row3 HP2.out.len) hu9
          have f0 := tg.lt
          have B9 := Lib.hid t9.2
          have HKY := Lib.hid (fun W => key_any (k : Int) W)
          obtain ⟨ky, hky⟩ : ∃ ky, ky = keyB (k : Int) := ⟨_, rfl⟩
          have HK9 := Lib.hid hky
          rw [← hky] at HKY
          generalize (L'[k][q]'(by omega)).key = ok at x9
          clear hu9 hou hc9 hf9 tg t9 hky hln
          go_wp2
          go_region_held3 (fun w' => w'.cell? ⟨g, k, none⟩ = some (.slice (some ⟨h9, 0, none⟩) n uc)) (first | exact c0 | exact c5 | go_keep) (first
            | (go_at_call 11; refine (HKY.out _).mono ?_; rintro e w5 ⟨rfl, h1⟩
               have U5 : Up wr w5 := ((Up.refl wr).drew).trans h1
               have c5 := (U5.cell (p := ⟨g, k, none⟩) f0).trans c0
               have x5 := (U5.cell (p := ⟨h9, q * 3 + 2, none⟩) hl9).trans x9
               have f5 := (U5.frozen (p := ⟨h9, q * 3 + 2, none⟩) hl9).trans f9
               have HU5 := Lib.hid U5
               clear h1 U5)
            | fail)
          obtain ⟨hkl, hln⟩ := HN2.out
          have hqj : q < L'[k].length := by omega
          have T5 := Lib.hid ((HT2.out.up HU5.out).setKey hkl HUK.out hqj ky)
          have P5 := Lib.hid (HP2.out.setKey hkl hqj (k := ky) (by rw [HK9.out, keyB_size]; omega))
          have K5 := HK2.out.set hkl hqj
          rw [← HK9.out] at K5
          have K6 := Lib.hid K5
          have N5 : Hid (∃ h : k < (L'.set k (L'[k].set q ⟨L'[k][q].tx, L'[k][q].kind, ky⟩)).length, (L'.set k (L'[k].set q ⟨L'[k][q].tx, L'[k][q].kind, ky⟩))[k].length = n) := ⟨by simpa using hkl, by simp [hln]⟩
          clear K5 hln
          go_wp2
          go_roundw
          case rel => exact ⟨q + 1, _, by omega, by go_num, T5.out, P5.out, K6.out, N5.out, (HU2.out.trans HU5.out).set B9.out _ _ _⟩
          case measure => simp [intOf]; omega
        · obtain rfl : q = n := by omega
          have K7 := Lib.hid (HK2.out.next fun hi => by
            obtain ⟨_, e⟩ := HN2.out
            rw [e]; exact Nat.le_refl _)
          go_wp2
          go_roundw
          case rel => exact ⟨k + 1, L', by omega, by go_num, HT2.out, HP2.out, K7.out, HU2.out⟩
          case measure => simp [intOf]; omega
    · obtain rfl : k = 3 := by omega
      go_wp2_with (first
        | (go_at_call 9; refine (HC.out _ _ L (HT.out.txR.base (Nat.zero_le _)) HP.out HK.out).mono ?_; rintro e w3 ⟨rfl, h1⟩; have U3 := Lib.hid h1; clear h1)
        | fail)
      go_ret
      exact ⟨rfl, (U1.out.trans HU.out).trans U3.out⟩
end Go.Proofs.Ythcldanmppkkjaa.In
