/- The workspace: the plain model, and how it lies in memory. -/
import Derived.Test.YtoelcnfgjfccgaaSpd
namespace Go.Proofs.Ytoelcnfgjfccgaa.Sp
open Go Go.RowKit Hp So
set_option linter.unusedVariables false

/-! ### Plain -/
abbrev Ws := List (ByteArray × Int)
def ec (l : Ws) : List Value := l.flatMap fun e => [.string e.1, .int .i64 e.2]
theorem ec_len (l : Ws) : (ec l).length = l.length * 2 := by unfold ec; induction l with
  | nil => rfl
  | cons a l ih => rw [List.flatMap_cons, List.length_append, ih, List.length_cons]; simp only [List.length_cons, List.length_nil]; omega
theorem ec_cons (e : ByteArray × Int) (l : Ws) : ec (e :: l) = .string e.1 :: .int .i64 e.2 :: ec l := rfl
theorem ec_app (a b : Ws) : ec (a ++ b) = ec a ++ ec b := List.flatMap_append
theorem ec_take (l : Ws) (i : Nat) : (ec l).take (i * 2) = ec (l.take i) := by
  induction l generalizing i with
  | nil => simp [ec]
  | cons a l ih => cases i with
    | zero => simp [ec]
    | succ i => rw [ec_cons, show (i + 1) * 2 = i * 2 + 1 + 1 by omega, List.take_succ_cons, List.take_succ_cons, ih, List.take_succ_cons, ec_cons]
theorem ec_drop (l : Ws) (i : Nat) : (ec l).drop (i * 2) = ec (l.drop i) := by
  induction l generalizing i with
  | nil => simp [ec]
  | cons a l ih => cases i with
    | zero => simp [ec]
    | succ i => rw [ec_cons, show (i + 1) * 2 = i * 2 + 1 + 1 by omega, List.drop_succ_cons, List.drop_succ_cons, ih, List.drop_succ_cons]
theorem ec_get (l : Ws) (i : Nat) (h : i < l.length) : (ec l)[i * 2]? = some (.string l[i].1) ∧ (ec l)[i * 2 + 1]? = some (.int .i64 l[i].2) := by
  induction l generalizing i with
  | nil => simp at h
  | cons a l ih => cases i with
    | zero => simp [ec_cons]
    | succ i =>
      have := ih i (by simpa using h)
      rw [ec_cons, show (i + 1) * 2 = i * 2 + 1 + 1 by omega, show i * 2 + 1 + 1 + 1 = (i * 2 + 1) + 1 + 1 by omega]
      simpa using this
theorem ec_set (l : Ws) (i : Nat) (h : i < l.length) (v : Int) : (ec l).set (i * 2 + 1) (.int .i64 v) = ec (l.set i (l[i].1, v)) := by
  induction l generalizing i with
  | nil => simp at h
  | cons a l ih => cases i with
    | zero => simp [ec_cons]
    | succ i =>
      have := ih i (by simpa using h)
      rw [ec_cons, show (i + 1) * 2 + 1 = i * 2 + 1 + 1 + 1 by omega]
      simp only [List.set_cons_succ, this, List.getElem_cons_succ, ec_cons]
theorem ec_one (l : Ws) : ∀ u ∈ ec l, u.oneCell' = true := fun u hu => by
  unfold ec at hu
  obtain ⟨e, _, he⟩ := List.mem_flatMap.1 hu
  simp at he; rcases he with rfl | rfl <;> rfl
def Srt (l : Ws) : Prop := l.Pairwise fun a b => slt a.1 b.1
structure WOk (l : Ws) : Prop where
  srt : Srt l
  len : l.length ≤ 40
  key : ∀ e ∈ l, e.1.size ≤ 24
def pos (l : Ws) (k : ByteArray) : Nat := l.findIdx fun e => !decide (slt e.1 k)
theorem pos_le (l : Ws) (k : ByteArray) : pos l k ≤ l.length := List.findIdx_le_length
theorem pos_eq {l : Ws} {k : ByteArray} {i : Nat} (hi : i ≤ l.length) (h1 : ∀ j (h : j < l.length), j < i → slt l[j].1 k) (h2 : ∀ h : i < l.length, ¬ slt l[i].1 k) : pos l k = i := by
  unfold pos
  by_cases h : i < l.length
  · exact (List.findIdx_eq h).2 ⟨by simpa using h2 h, fun j hj => by simpa using h1 j (by omega) hj⟩
  · obtain rfl : i = l.length := by omega
    rw [List.findIdx_eq_length]
    intro e he
    obtain ⟨j, hj, rfl⟩ := List.getElem_of_mem he
    simpa using h1 j hj hj
theorem pos_lt {l : Ws} {k : ByteArray} {j : Nat} (hj : j < pos l k) : ∃ h : j < l.length, slt l[j].1 k := by
  have hl := pos_le l k
  refine ⟨by omega, ?_⟩
  have := List.not_of_lt_findIdx hj
  simpa using this
theorem pos_ge {l : Ws} {k : ByteArray} (h : pos l k < l.length) : ¬ slt l[pos l k].1 k := by
  have := List.findIdx_getElem (w := h)
  simp only [Bool.not_eq_true', decide_eq_false_iff_not] at this
  exact this
def has (l : Ws) (k : ByteArray) : Bool := decide (∃ h : pos l k < l.length, l[pos l k].1 = k)
def putL (l : Ws) (k : ByteArray) (v : Int) : Ws × Int :=
  if 24 < k.size then (l, 2) else if has l k then (l.set (pos l k) (k, v), 0) else if l.length = 40 then (l, 18) else (l.take (pos l k) ++ (k, v) :: l.drop (pos l k), 0)
def delL (l : Ws) (k : ByteArray) : Ws × Int := if has l k then (l.take (pos l k) ++ l.drop (pos l k + 1), 0) else (l, 4)
def getL (l : Ws) (k : ByteArray) : Int × Int := if has l k then ((l.getD (pos l k) (k, 0)).2, 0) else (0, 4)
theorem has_pos {l : Ws} {k : ByteArray} (h : has l k = true) : ∃ hp : pos l k < l.length, l[pos l k].1 = k := of_decide_eq_true h
theorem Srt.get {l : Ws} (h : Srt l) {i j : Nat} (hi : i < j) (hj : j < l.length) : slt l[i].1 l[j].1 := List.pairwise_iff_getElem.1 h i j (by omega) hj hi
theorem mono_scmp {l : Ws} (h : Srt l) (t : ByteArray) (d : ByteArray × Int) : ∀ a b, a ≤ b → b < l.length → scmp (l.getD b d).1 t < 0 → scmp (l.getD a d).1 t < 0 := fun a b hab hb hc => by
  rw [scmp_lt] at *
  rcases Nat.lt_or_ge a b with h1 | h1
  · refine slt_trans ?_ hc
    have := h.get h1 hb
    simpa [List.getD, hb, Nat.lt_trans h1 hb] using this
  · obtain rfl : a = b := by omega
    exact hc
theorem WOk.nil : WOk [] := ⟨List.Pairwise.nil, by simp, fun e he => by cases he⟩
theorem WOk.put {l : Ws} (h : WOk l) (k : ByteArray) (v : Int) : WOk (putL l k v).1 := by
  unfold putL
  split
  · exact h
  · rename_i hk
    split
    · rename_i hh
      obtain ⟨hp, he⟩ := has_pos hh
      refine ⟨?_, by simpa using h.len, fun e he' => ?_⟩
      · have hs := h.srt
        refine List.pairwise_iff_getElem.2 fun i j hi hj hij => ?_
        have := hs.get hij (by simpa using hj)
        simp only [List.getElem_set]
        split <;> split
        · omega
        · rename_i h1 h2; subst h1; rw [he] at this; exact this
        · rename_i h1 h2; subst h2; rw [he] at this; exact this
        · exact this
      · rcases List.mem_or_eq_of_mem_set he' with h1 | rfl
        · exact h.key _ h1
        · show k.size ≤ 24; omega
    · rename_i hh
      split
      · exact h
      · rename_i hl
        have hp := pos_le l k
        have gt : ∀ e ∈ l.drop (pos l k), slt k e.1 := fun e he => by
          obtain ⟨j, hj, rfl⟩ := List.getElem_of_mem he
          rw [List.getElem_drop]
          rw [List.length_drop] at hj
          have h0 : pos l k < l.length := by omega
          have h1 : slt k l[pos l k].1 := by
            rcases Decidable.em (slt k l[pos l k].1) with h | h
            · exact h
            · exact absurd (decide_eq_true (⟨h0, slt_total (pos_ge h0) h⟩ : ∃ h : pos l k < l.length, l[pos l k].1 = k)) (by simpa [has] using hh)
          cases j with
          | zero => exact h1
          | succ j => exact slt_trans h1 (h.srt.get (by omega) (by omega))
        have lt : ∀ e ∈ l.take (pos l k), slt e.1 k := fun e he => by
          obtain ⟨j, hj, rfl⟩ := List.getElem_of_mem he
          rw [List.length_take] at hj
          rw [List.getElem_take]
          exact (pos_lt (by omega)).2
        refine ⟨?_, by simp only [List.length_append, List.length_take, List.length_cons, List.length_drop]; have := h.len; show min _ _ + _ ≤ _; omega, fun e he => ?_⟩
        · refine List.pairwise_append.2 ⟨h.srt.sublist (List.take_sublist _ _), List.pairwise_cons.2 ⟨fun e he => gt e he, h.srt.sublist (List.drop_sublist _ _)⟩, fun a ha b hb => ?_⟩
          rcases List.mem_cons.1 hb with rfl | hb
          · exact lt a ha
          · exact slt_trans (lt a ha) (gt b hb)
        · rcases List.mem_append.1 he with he | he
          · exact h.key _ (List.mem_of_mem_take he)
          · rcases List.mem_cons.1 he with rfl | he
            · show k.size ≤ 24; omega
            · exact h.key _ (List.mem_of_mem_drop he)
theorem WOk.del {l : Ws} (h : WOk l) (k : ByteArray) : WOk (delL l k).1 := by
  unfold delL
  split
  · have hs : (l.take (pos l k) ++ l.drop (pos l k + 1)).Sublist l := by
      conv => rhs; rw [← List.take_append_drop (pos l k) l]
      exact List.Sublist.append (List.Sublist.refl _) (by rw [← List.drop_drop]; exact List.drop_sublist _ _)
    exact ⟨h.srt.sublist hs, Nat.le_trans hs.length_le h.len, fun e he => h.key _ (hs.subset he)⟩
  · exact h

/-! ### In memory -/
/-- The saved rows. -/
def SavL (w : World) (F : Nat → Prop) (ev : Value) (ys : List Value) (sp : List Ws) : Prop :=
  ys.length = sp.length ∧ ∀ i (h : i < sp.length), ∃ y, ys[i]? = some y ∧ Src w 2 y sp[i].length (ec sp[i]) ∧ ∀ a n c, y = .slice (some a) n c → F a.block ∧ ev.ownBlock ≠ some a.block ∧ Ty w a.block 48
structure TxP (w : World) (p : Nat) (l : Ws) (sp : List Ws) (F : Nat → Prop) (ev sv : Value) (ys : List Value) : Prop where
  ok : WOk l
  oks : ∀ s ∈ sp, WOk s
  sl : sp.length ≤ 20
  lt : ∀ k, F k → k < w.heap.size
  fp : F p
  blk : Blk w p [ev, sv] 78
  ent : w.ownsRow 0 48 2 ev l.length (ec l)
  entF : ∀ k, ev.ownBlock = some k → F k
  sav : w.ownsRow 0 45 1 sv sp.length ys
  savF : ∀ k, sv.ownBlock = some k → F k
  sl' : SavL w F ev ys sp
def TxR (w : World) (p : Nat) (l : Ws) (sp : List Ws) (F : Nat → Prop) : Prop := ∃ ev sv ys, TxP w p l sp F ev sv ys
theorem ty_chg {S : Nat → Prop} {w w' : World} {b : Nat} {E : TypeId} (h : Ty w b E) (hc : Chg S w w') (hn : ¬ S b) : Ty w' b E := by
  obtain ⟨c, fz, h'⟩ := h
  exact ⟨c, fz, (hc.block b (Ty.lt ⟨c, fz, h'⟩) hn).trans h'⟩
theorem SavL.chg {S F F' : Nat → Prop} {w w' : World} {ev ev' : Value} {ys : List Value} {sp : List Ws} (h : SavL w F ev ys sp) (hc : Chg S w w') (hS : ∀ k, F k → ev.ownBlock ≠ some k → Ty w k 48 → ¬ S k ∧ F' k ∧ ev'.ownBlock ≠ some k) : SavL w' F' ev' ys sp :=
  ⟨h.1, fun i hi => by
    obtain ⟨y, h1, h2, h3⟩ := h.2 i hi
    refine ⟨y, h1, h2.chg hc fun a n c e => ?_, fun a n c e => ?_⟩
    · obtain ⟨a1, a2, a3⟩ := h3 a n c e; exact (hS _ a1 a2 a3).1
    · obtain ⟨a1, a2, a3⟩ := h3 a n c e; obtain ⟨b1, b2, b3⟩ := hS _ a1 a2 a3; exact ⟨b2, b3, ty_chg a3 hc b1⟩⟩
theorem TxP.chg {S : Nat → Prop} {w w' : World} {p : Nat} {l : Ws} {sp : List Ws} {F : Nat → Prop} {ev sv : Value} {ys : List Value} (h : TxP w p l sp F ev sv ys) (hc : Chg S w w') (hS : ∀ k, F k → ¬ S k) : TxP w' p l sp F ev sv ys :=
  ⟨h.ok, h.oks, h.sl, fun k hk => Nat.lt_of_lt_of_le (h.lt k hk) hc.size, h.fp, h.blk.chg hc (hS _ h.fp), own_chg h.ent hc fun k hk => hS k (h.entF k hk), h.entF, own_chg h.sav hc fun k hk => hS k (h.savF k hk), h.savF, h.sl'.chg hc fun k hk hn _ => ⟨hS k hk, hk, hn⟩⟩
theorem TxP.mono {w : World} {p : Nat} {l : Ws} {sp : List Ws} {F F' : Nat → Prop} {ev sv : Value} {ys : List Value} (h : TxP w p l sp F ev sv ys) (hF : ∀ k, F k → F' k) (hl : ∀ k, F' k → k < w.heap.size) : TxP w p l sp F' ev sv ys :=
  ⟨h.ok, h.oks, h.sl, hl, hF _ h.fp, h.blk, h.ent, fun k hk => hF _ (h.entF k hk), h.sav, fun k hk => hF _ (h.savF k hk), h.sl'.1, fun i hi => by
    obtain ⟨y, h1, h2, h3⟩ := h.sl'.2 i hi
    exact ⟨y, h1, h2, fun a n c e => by obtain ⟨a1, a2, a3⟩ := h3 a n c e; exact ⟨hF _ a1, a2, a3⟩⟩⟩
theorem TxR.chg {S : Nat → Prop} {w w' : World} {p : Nat} {l : Ws} {sp : List Ws} {F : Nat → Prop} (h : TxR w p l sp F) (hc : Chg S w w') (hS : ∀ k, F k → ¬ S k) : TxR w' p l sp F := by
  obtain ⟨ev, sv, ys, h⟩ := h; exact ⟨ev, sv, ys, h.chg hc hS⟩
theorem TxR.mono {w : World} {p : Nat} {l : Ws} {sp : List Ws} {F F' : Nat → Prop} (h : TxR w p l sp F) (hF : ∀ k, F k → F' k) (hl : ∀ k, F' k → k < w.heap.size) : TxR w p l sp F' := by
  obtain ⟨ev, sv, ys, h⟩ := h; exact ⟨ev, sv, ys, h.mono hF hl⟩
theorem TxR.up {w w' : World} {p : Nat} {l : Ws} {sp : List Ws} {F : Nat → Prop} (h : TxR w p l sp F) (hc : Up w w') : TxR w' p l sp F := h.chg (Below.chg (fun _ => False) hc) fun _ _ e => e
/-- Footprints grow. -/
theorem fx_lt {F : Nat → Prop} {w w' : World} (h : ∀ k, F k → k < w.heap.size) (hs : w.heap.size ≤ w'.heap.size) : ∀ k, Fx F w w' k → k < w'.heap.size := fun k hk => by
  rcases hk with hk | hk
  · have := h k hk; omega
  · exact hk.2
/-- Another row of entries. -/
theorem TxP.setEnt {w w2 : World} {p : Nat} {l l' : Ws} {sp : List Ws} {F : Nat → Prop} {ev sv ev' : Value} {ys : List Value} (h : TxP w p l sp F ev sv ys) (hC : Chg (fun j => ev.ownBlock = some j) w w2) (hown : w2.ownsRow 0 48 2 ev' l'.length (ec l'))
    (hat : ∀ k, ev'.ownBlock = some k → ev.ownBlock = some k ∨ w.heap.size ≤ k) (hok : WOk l') :
    TxP (w2.setCell ⟨p, 0, none⟩ ev') p l' sp (Fx F w (w2.setCell ⟨p, 0, none⟩ ev')) ev' sv ys ∧ Chg F w (w2.setCell ⟨p, 0, none⟩ ev') := by
  have hz : (w2.setCell ⟨p, 0, none⟩ ev').heap.size = w2.heap.size := by simp [World.setCell]
  have pn : ev.ownBlock ≠ some p := fun e => ((own_ty h.ent) p e).1.ne (E' := 78) (by decide) (blk_ty h.blk)
  have A : Chg (fun j => ev.ownBlock = some j ∨ j = p) w (w2.setCell ⟨p, 0, none⟩ ev') := hC.or (chg_set w2 p 0 none ev')
  have B2 := h.blk.chg hC pn
  have nS : ∀ k T, Ty w k T → ev.ownBlock ≠ some k → T ≠ 78 → ¬ (ev.ownBlock = some k ∨ k = p) := fun k T ht hn hT e => by
    rcases e with e | e
    · exact hn e
    · subst e; exact ht.ne hT (blk_ty h.blk)
  refine ⟨⟨hok, h.oks, h.sl, fx_lt h.lt A.size, .inl h.fp, B2.set 0 _, own_chg hown (chg_set _ _ _ _ _) fun k hk e => ?_, fun k hk => ?_, own_chg h.sav A fun k hk => nS k _ ((own_ty h.sav) k hk).1 (fun e => ((own_ty h.sav) k hk).1.ne (E' := 48) (by decide) ((own_ty h.ent) k e).1) (by decide), fun k hk => .inl (h.savF k hk), h.sl'.chg A fun k hk hn ht => ⟨nS k _ ht hn (by decide), .inl hk, fun e => ?_⟩⟩, A.mono fun j _ e => ?_⟩
  · subst e; exact ((own_ty hown) _ hk).1.ne (E' := 78) (by decide) (blk_ty B2)
  · rcases hat k hk with e | e
    · exact .inl (h.entF k e)
    · exact .inr ⟨e, by rw [hz]; exact own_lt hown k hk⟩
  · rcases hat k e with e | e
    · exact hn e
    · have := h.lt k hk; omega
  · rcases e with e | e
    · exact h.entF j e
    · subst e; exact h.fp
/-- Other savepoints. -/
theorem TxP.setSav {w w2 : World} {p : Nat} {l : Ws} {sp sp' : List Ws} {F : Nat → Prop} {ev sv sv' : Value} {ys ys' : List Value} (h : TxP w p l sp F ev sv ys) (hC : Chg (fun j => sv.ownBlock = some j) w w2) (hown : w2.ownsRow 0 45 1 sv' sp'.length ys')
    (hat : ∀ k, sv'.ownBlock = some k → sv.ownBlock = some k ∨ w.heap.size ≤ k) (hok : ∀ s ∈ sp', WOk s) (hl : sp'.length ≤ 20) (hS : SavL w2 (fun k => F k ∨ (w.heap.size ≤ k ∧ k < w2.heap.size)) ev ys' sp') :
    TxP (w2.setCell ⟨p, 1, none⟩ sv') p l sp' (Fx F w (w2.setCell ⟨p, 1, none⟩ sv')) ev sv' ys' ∧ Chg F w (w2.setCell ⟨p, 1, none⟩ sv') := by
  have hz : (w2.setCell ⟨p, 1, none⟩ sv').heap.size = w2.heap.size := by simp [World.setCell]
  have pn : sv.ownBlock ≠ some p := fun e => ((own_ty h.sav) p e).1.ne (E' := 78) (by decide) (blk_ty h.blk)
  have A : Chg (fun j => sv.ownBlock = some j ∨ j = p) w (w2.setCell ⟨p, 1, none⟩ sv') := hC.or (chg_set w2 p 1 none sv')
  have B2 := h.blk.chg hC pn
  have B1 := chg_set w2 p 1 none sv'
  refine ⟨⟨h.ok, hok, hl, fx_lt h.lt A.size, .inl h.fp, B2.set 1 _, own_chg h.ent A fun k hk e => ?_, fun k hk => .inl (h.entF k hk), own_chg hown B1 fun k hk e => ?_, fun k hk => ?_, hS.chg B1 fun k hk hn ht => ⟨fun e => ?_, by unfold Fx; rw [hz]; exact hk, hn⟩⟩, A.mono fun j _ e => ?_⟩
  · have ht := ((own_ty h.ent) k hk).1
    rcases e with e | e
    · exact ht.ne (E' := 45) (by decide) ((own_ty h.sav) k e).1
    · subst e; exact ht.ne (E' := 78) (by decide) (blk_ty h.blk)
  · subst e; exact ((own_ty hown) _ hk).1.ne (E' := 78) (by decide) (blk_ty B2)
  · rcases hat k hk with e | e
    · exact .inl (h.savF k e)
    · exact .inr ⟨e, by rw [hz]; exact own_lt hown k hk⟩
  · subst e; exact ht.ne (E' := 78) (by decide) (blk_ty B2)
  · rcases e with e | e
    · exact h.savF j e
    · subst e; exact h.fp
/-- One value, overwritten. -/
theorem TxP.setVal {w : World} {p g cap i : Nat} {l : Ws} {sp : List Ws} {F : Nat → Prop} {sv : Value} {ys : List Value} (h : TxP w p l sp F (.slice (some ⟨g, 0, none⟩) l.length cap) sv ys) (hi : i < l.length) (k : ByteArray) (hk : l[i].1 = k) (v : Int) (hok : WOk (l.set i (k, v))) :
    TxP (w.setCell ⟨g, i * 2 + 1, none⟩ (.int .i64 v)) p (l.set i (k, v)) sp F (.slice (some ⟨g, 0, none⟩) l.length cap) sv ys ∧ Chg F w (w.setCell ⟨g, i * 2 + 1, none⟩ (.int .i64 v)) := by
  have C := chg_set w g (i * 2 + 1) none (.int .i64 v)
  have hz : (w.setCell ⟨g, i * 2 + 1, none⟩ (.int .i64 v)).heap.size = w.heap.size := by simp [World.setCell]
  have tg := ((own_ty h.ent) g rfl).1
  have E := own_set h.ent (i * 2 + 1) (by rw [ec_len]; omega) (.int .i64 v)
  rw [ec_set l i hi v, hk] at E
  refine ⟨⟨hok, h.oks, h.sl, fun k hk => by rw [hz]; exact h.lt k hk, h.fp, h.blk.chg C fun e => ?_, by rw [List.length_set]; exact E, h.entF, own_chg h.sav C fun k hk e => ?_, h.savF, h.sl'.chg C fun k hk hn ht => ⟨fun e => ?_, hk, hn⟩⟩, C.mono fun j _ e => ?_⟩
  · subst e; exact tg.ne (E' := 78) (by decide) (blk_ty h.blk)
  · subst e; exact tg.ne (E' := 45) (by decide) ((own_ty h.sav) _ hk).1
  · subst e; exact hn rfl
  · subst e; exact h.entF _ rfl

end Go.Proofs.Ytoelcnfgjfccgaa.Sp
