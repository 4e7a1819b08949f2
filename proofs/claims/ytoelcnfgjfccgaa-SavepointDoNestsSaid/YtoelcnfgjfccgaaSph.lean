/- The workspace's Savepoint, RollbackTo, Release. -/
import Derived.Test.YtoelcnfgjfccgaaSpg
namespace Go.Proofs.Ytoelcnfgjfccgaa.Sp
open Go Go.RowKit Hp So
set_option linter.unusedVariables false

theorem cell_one_at (w : World) (g : Nat) (hg : w.heap.size = g) (v : Value) (E : TypeId) : ∀ (j : Nat) u, [v][j]? = some u → (w.alloc (.cells #[v] E)).cell? ((⟨g, 0, none⟩ : Addr).add j) = some u := by
  subst hg
  intro j u hj
  match j, hj with
  | 0, hj =>
    simp at hj; subst hj
    rw [show (⟨w.heap.size, 0, none⟩ : Addr).add 0 = ⟨w.heap.size, 0, none⟩ by simp [Addr.add], World.cell?_alloc_new]; rfl

def spP (l : Ws) (sp : List Ws) : List Ws × Int × Int := if sp.length = 20 then (sp, 0, 18) else (sp ++ [l], ((sp.length + 1 : Nat) : Int), 0)
set_option maxRecDepth 100000 in
set_option maxHeartbeats 1000000 in
theorem sp_full (p : Nat) (l : Ws) (sp : List Ws) (F : Nat → Prop) (w : World) (h : TxR w p l sp F) (hf : sp.length = 20) :
    Calls Try.prog 27 #[.pointer (some ⟨p, 0, none⟩)] w fun e w' => e = .returned (.tuple #[.int .i64 (spP l sp).2.1, .int .i64 (spP l sp).2.2]) ∧ TxR w' p l (spP l sp).1 (Fx F w w') ∧ Chg F w w' := by
  have HP : Hid (spP l sp = (sp, 0, 18)) := by unfold Hid spP; simp only [hf, if_true]
  have HR := Lib.hid h
  obtain ⟨ev, sv, ys, h⟩ := h
  obtain ⟨a, cap, rfl, _, _, _⟩ := own_form h.sav
  have c1 := h.blk.cell 1
  rw [show ([ev, Value.slice a sp.length cap])[1]? = some (.slice a sp.length cap) from rfl, hf] at c1
  clear h hf
  go_enter Try.func27, Try.ntmps27
  go_wp2
  go_ret2
  rw [HP.out]
  exact ⟨rfl, HR.out.upP (Up.refl w)⟩

/-- A saved row more. -/
theorem sp_step {w w1 w2 : World} {p : Nat} {l : Ws} {sp : List Ws} {F : Nat → Prop} {ev sv sv' y : Value} {ys : List Value} {o : Obj} (h : TxP w p l sp F ev sv ys) (h1 : w1.ownsRow w.heap.size 48 2 y l.length (ec l)) (hU : Up w w1)
    (hown : w2.ownsRow 0 45 1 sv' (sp.length + 1) (ys ++ [y])) (hg : (w1.alloc o).grownBy w2 sv.ownBlock) (hat : ∀ k, sv'.ownBlock = some k → sv.ownBlock = some k ∨ w.heap.size ≤ k) (hl : sp.length < 20) :
    TxR (w2.setCell ⟨p, 1, none⟩ sv') p l (sp ++ [l]) (Fx F w (w2.setCell ⟨p, 1, none⟩ sv')) ∧ Chg F w (w2.setCell ⟨p, 1, none⟩ sv') := by
  have C : Chg (fun j => sv.ownBlock = some j) w w2 := ((Below.chg _ hU).alloc o).grown hg fun k hk => .inl hk
  have C1 : Chg (fun j => sv.ownBlock = some j) w1 w2 := ((Chg.refl _ w1).alloc o).grown hg fun k hk => .inl hk
  have yl := own_ty h1
  have nS : ∀ k, Ty w k 48 → ¬ sv.ownBlock = some k := fun k ht e => ht.ne (E' := 45) (by decide) ((own_ty h.sav) k e).1
  have ny : ∀ k, y.ownBlock = some k → ¬ sv.ownBlock = some k := fun k hk e => by have := (yl k hk).2; have := own_lt h.sav k e; omega
  have Y2 := own_chg h1 C1 ny
  obtain ⟨a1, a2⟩ := h.setSav (sp' := sp ++ [l]) (ys' := ys ++ [y]) (sv' := sv') C (by rw [List.length_append]; exact hown) hat (fun s hs => by
      rcases List.mem_append.1 hs with hs | hs
      · exact h.oks s hs
      · rw [List.mem_singleton.1 hs]; exact h.ok) (by simp; omega) ⟨by rw [List.length_append, List.length_append, h.sl'.1]; rfl, fun i hi => by
      rcases Nat.lt_or_ge i sp.length with hi2 | hi2
      · obtain ⟨z, z1, z2, z3⟩ := (h.sl'.chg (F' := fun k => F k ∨ (w.heap.size ≤ k ∧ k < w2.heap.size)) (ev' := ev) C fun k hk hn ht => ⟨nS k ht, .inl hk, hn⟩).2 i hi2
        rw [List.getElem_append_left hi2]
        exact ⟨z, by rw [List.getElem?_append_left (by rw [h.sl'.1]; exact hi2)]; exact z1, z2, z3⟩
      · obtain rfl : i = sp.length := by simp at hi; omega
        rw [List.getElem_append_right (Nat.le_refl _)]
        refine ⟨y, by rw [List.getElem?_append_right (by rw [h.sl'.1]; exact Nat.le_refl _), h.sl'.1]; simp, by simpa using own_src Y2, fun a n c e => ?_⟩
        have hk : y.ownBlock = some a.block := by rw [e]; rfl
        refine ⟨.inr ⟨(yl _ hk).2, own_lt Y2 _ hk⟩, fun e2 => ?_, ((own_ty Y2) _ hk).1⟩
        have := (yl _ hk).2; have := own_lt h.ent _ e2; omega⟩
  exact ⟨⟨_, _, _, a1⟩, a2⟩

theorem Try.infoS : (Try.prog.info? 45).map (fun i => (i.zero, i.size, i.bytes)) = some (some (.slice none 0 0), 1, 24) := by kernel_rfl
set_option maxRecDepth 100000 in
set_option maxHeartbeats 1000000 in
theorem sp_new (p : Nat) (l : Ws) (sp : List Ws) (F : Nat → Prop) (w : World) (h : TxR w p l sp F) (hf : ¬ sp.length = 20) :
    Calls Try.prog 27 #[.pointer (some ⟨p, 0, none⟩)] w fun e w' => e = .returned (.tuple #[.int .i64 (spP l sp).2.1, .int .i64 (spP l sp).2.2]) ∧ TxR w' p l (spP l sp).1 (Fx F w w') ∧ Chg F w w' := by
  obtain ⟨i0, hi0, hz0, hz1, hz2⟩ := info_parts Try.infoS
  have HP : Hid (spP l sp = (sp ++ [l], ((sp.length + 1 : Nat) : Int), 0)) := by unfold Hid spP; simp only [hf, if_false]
  obtain ⟨ev, sv, ys, h⟩ := h
  have hlen := h.ok.len
  have hsl := h.sl
  have HS := Lib.hid h
  have hc := cloneE ev l.length (ec l) w (own_src h.ent) (ec_one l) (by omega)
  obtain ⟨a, cap, rfl, _, _, _⟩ := own_form h.sav
  have c1 := h.blk.cell 1
  rw [show ([ev, Value.slice a sp.length cap])[1]? = some (.slice a sp.length cap) from rfl] at c1
  have c0 := h.blk.cell 0
  rw [show ([ev, Value.slice a sp.length cap])[0]? = some ev from rfl] at c0
  have hpl := h.blk.lt
  have hf2 : ¬ (sp.length : Int) = 20 := by omega
  have hq : ((sp.length : Int) == 20) = false := beq_eq_false_iff_ne.2 hf2
  clear h hf
  go_enter Try.func27, Try.ntmps27
  go_wp2
  have HC : Hid (∀ W, Up w W → Calls Try.prog 47 #[ev] W fun e w' => ∃ v, e = .returned v ∧ w'.ownsRow W.heap.size 48 2 v l.length (ec l) ∧ Up W w') := fun W hu => cloneE ev l.length (ec l) W ((own_src HS.out.ent).up hu) (ec_one l) (by omega)
  go_region_law (first
    | (refine step_go (f := 47) Try.call47 #[ev] (by simp [Act.eval, Act.put]) (HC.out _ (by first | exact Up.refl w | exact (Up.refl w).drew)) ?_
       rintro e w1 ⟨v, rfl, h1, h2⟩
       refine ⟨_, rfl, ?_⟩
       obtain ⟨av, cv, rfl, _, _, _⟩ := own_form h1
       have h2' : Up w w1 := (Up.refl w).drew.trans h2
       have r0 := h2'.cell (p := ⟨p, 0, none⟩) hpl
       have r1 := h2'.cell (p := ⟨p, 1, none⟩) hpl
       have hp1 : p < w1.heap.size := Nat.lt_of_lt_of_le hpl h2'.size
       rw [c0] at r0
       rw [c1] at r1
       have H1 := Lib.hid h1
       have H2 := Lib.hid h2'
       clear h1 h2 h2')
    | (refine step_append_lies _ rfl (.tmp 14) (.tmp 20) 76 rfl 0 45 i0 (.slice none 0 0) 1 24 Try.underlying76 hi0 hz0 hz1 hz2 rfl (by decide) (.slice a sp.length cap) sp.length ys (by simp [Act.eval, Act.put]) (by first | exact own_up HS.out.sav (H2.out.alloc _)) ⟨w1.heap.size, 0, none⟩ 1 1 [.slice av l.length cv] (by simp [Act.eval, Act.put]) rfl ((cell_one_at w1 w1.heap.size rfl (.slice av l.length cv) 45)) (by intro u hu; rw [List.mem_singleton.1 hu]; rfl) (by decide) (by unfold maxLen; omega) (by omega) (by omega) (w1.heap.size + 1) (by simp) ?_
       intro g2 c2 w2 hown2 hgrow2 hat2 hlt2
       have q0 := fld_far HS.out.blk (by decide) HS.out.sav (H2.out.alloc _) hgrow2
       have q1 := q0.cell 1
       have q2 := q0.free 1
       clear q0
       have hown2 := Lib.hid hown2
       have hgrow2 := Lib.hid hgrow2
       have hat2 := Lib.hid hat2))
  all_goals
    go_wp2
    go_ret2
    rw [HP.out]
    exact ⟨rfl, sp_step HS.out H1.out H2.out hown2.out hgrow2.out (fun k hk => by
      obtain rfl : g2 = k := by simpa [Value.ownBlock] using hk
      rcases hat2.out with e | e
      · exact .inl e
      · have := H2.out.size; exact .inr (by omega)) (by omega)⟩

end Go.Proofs.Ytoelcnfgjfccgaa.Sp
