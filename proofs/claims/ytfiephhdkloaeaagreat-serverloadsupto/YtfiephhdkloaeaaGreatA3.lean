/- The orders of a region: what holds in one order holds in all. -/
import Derived.Test.YtfiephhdkloaeaaGreatA2
section
set_option linter.unusedVariables false
namespace Go.Proofs.YtfiephhdkloaeaaGreat.Ch
open Go Go.Conc

/-- How an operation takes its turn: it leaves all as1 it is; it takes a new block; anything. -/
inductive Kd where
  | q
  | a (o : Obj)
  | g

abbrev Pd := List (Nat × Nat × Obj)

section
variable {P : Program} {main : Bool} {ops : Array Oper} {bf : Nat → Nat → Bool}

def AllocF (P : Program) (o : Oper) (obj : Obj) : Prop := ∀ (a : Act) (H : Hp) (Q : Next → Hp → Prop) (E : Halt → Hp → Prop),
  (∀ r, H r = none → Q (.value (.pointer (some ⟨r, 0, none⟩))) (H.set r (true, obj))) → wp P (execOp a.eval o) H Q E

def QF (P : Program) (ops : Array Oper) (o : Oper) (a : Act) (v : Value) (F : List (Nat × Obj)) : Prop :=
  (Region.wanted o (yielded ops a.tmps) = true ∧ ∀ H', Held F H' → wp P (execOp a.eval o) H' (fun nx H'' => nx = .value v ∧ H'' = H') (fun _ _ => False)) ∨
  (Region.wanted o (yielded ops a.tmps) = false ∧ v = undef ∧ F = [])

def tag (i : Nat) (F : List (Nat × Obj)) : Pd := F.map fun f => (i, f)

def Step (P : Program) (main : Bool) (ops : Array Oper) (bf : Nat → Nat → Bool) (i : Nat) (k : Kd) (pd : Pd) (a : Act) (H : Hp) (Φ : Pd → Act → Hp → Prop) : Prop :=
  ∃ o, ops[i]? = some o ∧ (
    (∃ v F, (k = .q ∨ Region.wanted o (yielded ops a.tmps) = false) ∧ QF P ops o a v F ∧ Held F H ∧ Φ (tag i F ++ pd) (a.put o.dst v) H) ∨
    (∃ obj, k = .a obj ∧ Region.wanted o (yielded ops a.tmps) = true ∧ AllocF P o obj ∧ ∀ r, H r = none → Φ pd (a.put o.dst (.pointer (some ⟨r, 0, none⟩))) (H.set r (true, obj))) ∨
    (k = .g ∧ Region.wanted o (yielded ops a.tmps) = true ∧ OpG P main o a H (fun v H' =>
      (∀ x ∈ pd, bf x.1 i = false → ∃ p, H' x.2.1 = some (p, x.2.2)) ∧ Φ (pd.filter fun x => !bf x.1 i) (a.put o.dst v) H')))

def SeqR (P : Program) (main : Bool) (ops : Array Oper) (bf : Nat → Nat → Bool) (post : Act → Hp → Prop) : List (Nat × Kd) → Pd → Act → Hp → Prop
  | [], _, a, H => post a H
  | (i, k) :: σ, pd, a, H => Step P main ops bf i k pd a H (SeqR P main ops bf post σ)

variable {Φ Ψ : Pd → Act → Hp → Prop}

theorem Step.mono {i : Nat} {k : Kd} {pd : Pd} {a : Act} {H : Hp} (hΦ : ∀ pd a H, Φ pd a H → Ψ pd a H) (hs : Step P main ops bf i k pd a H Φ) : Step P main ops bf i k pd a H Ψ := by
  obtain ⟨o, ho, h⟩ := hs
  refine ⟨o, ho, ?_⟩
  rcases h with ⟨v, F, h1, h2, h3, h4⟩ | ⟨obj, h1, h2, h3, h4⟩ | ⟨h1, h2, h3⟩
  · exact .inl ⟨v, F, h1, h2, h3, hΦ _ _ _ h4⟩
  · exact .inr (.inl ⟨obj, h1, h2, h3, fun r hr => hΦ _ _ _ (h4 r hr)⟩)
  · exact .inr (.inr ⟨h1, h2, h3.mono fun v H' h => ⟨h.1, hΦ _ _ _ h.2⟩⟩)

def Anti (Φ : Pd → Act → Hp → Prop) : Prop := ∀ pd pd' a H, (∀ x ∈ pd', x ∈ pd) → Φ pd a H → Φ pd' a H
def Up (Φ : Pd → Act → Hp → Prop) : Prop := ∀ pd a H K, Sub H K → Φ pd a H → Φ pd a K

theorem Held.up {F : List (Nat × Obj)} {H K : Hp} (hs : Sub H K) (hF : Held F H) : Held F K := fun x hx => let ⟨p, h⟩ := hF x hx; ⟨p, hs _ _ h⟩

theorem OpG.up {o : Oper} {a : Act} {H K : Hp} {Q : Value → Hp → Prop} (hs : Sub H K) (hg : OpG P main o a H Q) : OpG P main o a K (fun v K' => ∃ H', Q v H' ∧ Fr H K H' K') := by
  rcases hg with hg | ⟨g, args, h1, h2⟩
  · left
    refine wp_mono _ ?_ (fun _ _ ⟨_, f, _⟩ => f) (wp_frame _ hs hg)
    rintro nx K' ⟨H', h, f⟩
    rcases h with ⟨v, h1, h2⟩ | ⟨h1, h2⟩
    · exact .inl ⟨v, h1, H', h2, f⟩
    · exact .inr ⟨h1, H', h2, f⟩
  · refine .inr ⟨g, args, h1, (h2.frame hs).mono ?_⟩
    rintro e K' ⟨H', ⟨v, rfl, h⟩, f⟩
    exact ⟨v, rfl, H', h, f⟩

theorem OpG.congr {o : Oper} {a a' : Act} {H : Hp} {Q : Value → Hp → Prop} (he : execOp a'.eval o = execOp a.eval o) (hg : OpG P main o a H Q) : OpG P main o a' H Q := by
  unfold OpG at *
  rw [he]; exact hg

theorem Sub.set {H K : Hp} (hs : Sub H K) (r : Nat) (x : Bool × Obj) : Sub (H.set r x) (K.set r x) := by
  intro c y hc
  unfold Hp.set at hc ⊢
  split
  · rename_i e; rw [if_pos e] at hc; exact hc
  · rename_i e; rw [if_neg e] at hc; exact hs c y hc

theorem Held.set {F : List (Nat × Obj)} {H : Hp} {r : Nat} {x : Bool × Obj} (hF : Held F H) (hr : H r = none) : Held F (H.set r x) := fun y hy => by
  obtain ⟨p, h⟩ := hF y hy
  have : y.1 ≠ r := fun e => by rw [e, hr] at h; cases h
  exact ⟨p, by rw [Hp.set_ne _ _ this]; exact h⟩

theorem Step.up (hu : Up Φ) {i : Nat} {k : Kd} : Up (fun pd a H => Step P main ops bf i k pd a H Φ) := by
  intro pd a H K hs hst
  obtain ⟨o, ho, h⟩ := hst
  refine ⟨o, ho, ?_⟩
  rcases h with ⟨v, F, h1, h2, h3, h4⟩ | ⟨obj, h1, h2, h3, h4⟩ | ⟨h1, h2, h3⟩
  · exact .inl ⟨v, F, h1, h2, h3.up hs, hu _ _ _ _ hs h4⟩
  · refine .inr (.inl ⟨obj, h1, h2, h3, fun r hr => hu _ _ _ _ (hs.set r _) (h4 r ?_)⟩)
    cases hh : H r with
    | none => rfl
    | some x => rw [hs r x hh] at hr; cases hr
  · refine .inr (.inr ⟨h1, h2, (h3.up hs).mono ?_⟩)
    rintro v K' ⟨H', ⟨q1, q2⟩, f⟩
    exact ⟨fun x hx hb => let ⟨p, h⟩ := q1 x hx hb; ⟨p, f.sub _ _ h⟩, hu _ _ _ _ f.sub q2⟩

theorem Step.anti (ha : Anti Φ) {i : Nat} {k : Kd} : Anti (fun pd a H => Step P main ops bf i k pd a H Φ) := by
  intro pd pd' a H hp hst
  obtain ⟨o, ho, h⟩ := hst
  refine ⟨o, ho, ?_⟩
  rcases h with ⟨v, F, h1, h2, h3, h4⟩ | ⟨obj, h1, h2, h3, h4⟩ | ⟨h1, h2, h3⟩
  · refine .inl ⟨v, F, h1, h2, h3, ha _ _ _ _ (fun x hx => ?_) h4⟩
    rcases List.mem_append.1 hx with hx | hx
    · exact List.mem_append_left _ hx
    · exact List.mem_append_right _ (hp x hx)
  · exact .inr (.inl ⟨obj, h1, h2, h3, fun r hr => ha _ _ _ _ hp (h4 r hr)⟩)
  · refine .inr (.inr ⟨h1, h2, h3.mono fun v H' h => ⟨fun x hx hb => h.1 x (hp x hx) hb, ha _ _ _ _ (fun x hx => ?_) h.2⟩⟩)
    obtain ⟨h5, h6⟩ := List.mem_filter.1 hx
    exact List.mem_filter.2 ⟨hp x h5, h6⟩

theorem SeqR.up {post : Act → Hp → Prop} (hp : ∀ a H K, Sub H K → post a H → post a K) : ∀ σ, Up (SeqR P main ops bf post σ)
  | [] => fun _ a H K hs h => hp a H K hs h
  | (i, k) :: σ => Step.up (SeqR.up hp σ)
theorem SeqR.anti {post : Act → Hp → Prop} : ∀ σ, Anti (SeqR P main ops bf post σ)
  | [] => fun _ _ a H hp h => h
  | (i, k) :: σ => Step.anti (SeqR.anti σ)

theorem QF.congr {o : Oper} {a a' : Act} {v : Value} {F : List (Nat × Obj)} (he : execOp a'.eval o = execOp a.eval o) (hw : Region.wanted o (yielded ops a'.tmps) = Region.wanted o (yielded ops a.tmps))
    (hq : QF P ops o a v F) : QF P ops o a' v F := by
  unfold QF at *
  rw [he, hw]; exact hq

def swapOK : Kd → Kd → Bool
  | .q, _ => true
  | .a _, .a _ => true
  | .g, .a _ => true
  | _, _ => false

theorem swap {i j : Nat} {kx ky : Kd} {pd : Pd} {a : Act} {H : Hp} {oi oj : Oper} (hu : Up Φ) (ha : Anti Φ) (hi : ops[i]? = some oi) (hj : ops[j]? = some oj) (ap : oi.apart ops oj = true)
    (hsi : ∀ cs b, oi.op ≠ .select cs b) (hsj : ∀ cs b, oj.op ≠ .select cs b) (hbf : bf i j = false) (hsw : swapOK kx ky = true) (hal : ∀ obj, ky = .a obj → AllocF P oj obj)
    (h : Step P main ops bf i kx pd a H (fun pd a H => Step P main ops bf j ky pd a H Φ)) : Step P main ops bf j ky pd a H (fun pd a H => Step P main ops bf i kx pd a H Φ) := by
  obtain ⟨p1, p2, p3⟩ := Oper.apart_spec ap
  have ex : ∀ (a : Act) v, execOp (a.put oi.dst v).eval oj = execOp a.eval oj := fun a v => execOp_put oj hsj a oi.dst v p1
  have wx : ∀ (a : Act) v, Region.wanted oj (yielded ops (a.put oi.dst v).tmps) = Region.wanted oj (yielded ops a.tmps) := fun a v => wanted_put oj a oi.dst v p1
  have ey : ∀ (a : Act) v, execOp (a.put oj.dst v).eval oi = execOp a.eval oi := fun a v => execOp_put oi hsi a oj.dst v p3
  have wy : ∀ (a : Act) v, Region.wanted oi (yielded ops (a.put oj.dst v).tmps) = Region.wanted oi (yielded ops a.tmps) := fun a v => wanted_put oi a oj.dst v p3
  have cm : ∀ (a : Act) v u, (a.put oi.dst v).put oj.dst u = (a.put oj.dst u).put oi.dst v := fun a v u => Act.put_comm a v u p2
  obtain ⟨o, ho, h⟩ := h
  rw [hi] at ho; cases ho
  rcases h with ⟨v, F, h1, h2, h3, o', ho', h4⟩ | ⟨obj, h1, h2, h3, h4⟩ | ⟨h1, h2, h3⟩
  · -- quiet first
    rw [hj] at ho'; cases ho'
    refine ⟨oj, hj, ?_⟩
    rw [wx] at h4
    have toI : ∀ u, QF P ops oi (a.put oj.dst u) v F := fun u => h2.congr (ey a u) (wy a u)
    rcases h4 with ⟨w, F', k1, k2, k3, k4⟩ | ⟨obj, k1, k2, k3, k4⟩ | ⟨k1, k2, k3⟩
    · refine .inl ⟨w, F', k1, (k2.congr (ex a v).symm (wx a v).symm), k3, oi, hi, .inl ⟨v, F, ?_, toI w, h3, ?_⟩⟩
      · rw [wy]; exact h1
      · rw [← cm]
        refine ha _ _ _ _ (fun x hx => ?_) k4
        rcases List.mem_append.1 hx with hx | hx
        · exact List.mem_append_right _ (List.mem_append_left _ hx)
        · rcases List.mem_append.1 hx with hx | hx
          · exact List.mem_append_left _ hx
          · exact List.mem_append_right _ (List.mem_append_right _ hx)
    · refine .inr (.inl ⟨obj, k1, k2, k3, fun r hr => ⟨oi, hi, .inl ⟨v, F, ?_, toI _, h3.set hr, ?_⟩⟩⟩)
      · rw [wy]; exact h1
      · rw [← cm]; exact k4 r hr
    · refine .inr (.inr ⟨k1, k2, (k3.congr (ex a v).symm).mono ?_⟩)
      rintro u H' ⟨q1, q2⟩
      refine ⟨fun x hx hb => q1 x (List.mem_append_right _ hx) hb, oi, hi, .inl ⟨v, F, ?_, toI u, ?_, ?_⟩⟩
      · rw [wy]; exact h1
      · intro f hf
        exact q1 (i, f) (List.mem_append_left _ (List.mem_map.2 ⟨f, hf, rfl⟩)) hbf
      · rw [← cm]
        refine ha _ _ _ _ (fun x hx => ?_) q2
        rcases List.mem_append.1 hx with hx | hx
        · obtain ⟨f, hf, rfl⟩ := List.mem_map.1 hx
          exact List.mem_filter.2 ⟨List.mem_append_left _ hx, by simp [hbf]⟩
        · obtain ⟨h5, h6⟩ := List.mem_filter.1 hx
          exact List.mem_filter.2 ⟨List.mem_append_right _ h5, h6⟩
  · -- a new block first
    subst h1
    cases ky with
    | q => cases hsw
    | g => cases hsw
    | a obj' =>
      have hal' := hal obj' rfl
      refine ⟨oj, hj, ?_⟩
      cases hw : Region.wanted oj (yielded ops a.tmps) with
      | false =>
        refine .inl ⟨undef, [], .inr rfl, .inr ⟨hw, rfl, rfl⟩, Held.nil, oi, hi, .inr (.inl ⟨obj, rfl, by rw [wy]; exact h2, h3, fun r hr => ?_⟩)⟩
        obtain ⟨o', ho', h5⟩ := h4 r hr
        rw [hj] at ho'; cases ho'
        rw [wx, hw] at h5
        rcases h5 with ⟨w, F', k1, k2, k3, k4⟩ | ⟨_, _, k, _⟩ | ⟨k, _⟩
        · rcases k2 with ⟨k2, _⟩ | ⟨_, rfl, rfl⟩
          · rw [wx, hw] at k2; cases k2
          · rw [← cm]; exact k4
        · cases k
        · cases k
      | true =>
        refine .inr (.inl ⟨obj', rfl, rfl, hal', fun r' hr' => ⟨oi, hi, .inr (.inl ⟨obj, rfl, by rw [wy]; exact h2, h3, fun r hr => ?_⟩)⟩⟩)
        have hne : r ≠ r' := fun e => by rw [e, Hp.set_same] at hr; cases hr
        have hr0 : H r = none := by rw [Hp.set_ne _ _ hne] at hr; exact hr
        obtain ⟨o', ho', h5⟩ := h4 r hr0
        rw [hj] at ho'; cases ho'
        rw [wx, hw] at h5
        rcases h5 with ⟨w, F', k1, k2, k3, k4⟩ | ⟨obj2, k1, _, _, k4⟩ | ⟨k, _⟩
        · rcases k1 with k1 | k1 <;> cases k1
        · cases k1
          have := k4 r' (by rw [Hp.set_ne _ _ (Ne.symm hne)]; exact hr')
          rw [← cm]
          have e1 : (H.set r (true, obj)).set r' (true, obj') = (H.set r' (true, obj')).set r (true, obj) := by
            funext c
            unfold Hp.set
            by_cases e1 : c = r <;> by_cases e2 : c = r' <;> simp [e1, e2, hne, Ne.symm hne]
            all_goals (intro e3; exact absurd e3 (by first | exact hne | exact Ne.symm hne))
          rw [← e1]; exact this
        · cases k
  · -- anything first
    subst h1
    cases ky with
    | q => cases hsw
    | g => cases hsw
    | a obj' =>
      have hal' := hal obj' rfl
      refine ⟨oj, hj, ?_⟩
      cases hw : Region.wanted oj (yielded ops a.tmps) with
      | false =>
        refine .inl ⟨undef, [], .inr rfl, .inr ⟨hw, rfl, rfl⟩, Held.nil, oi, hi, .inr (.inr ⟨rfl, by rw [wy]; exact h2, (h3.congr (ey a _)).mono ?_⟩)⟩
        rintro u H' ⟨q1, o', ho', h5⟩
        rw [hj] at ho'; cases ho'
        rw [wx, hw] at h5
        refine ⟨q1, ?_⟩
        rcases h5 with ⟨w, F', k1, k2, k3, k4⟩ | ⟨_, _, k, _⟩ | ⟨k, _⟩
        · rcases k2 with ⟨k2, _⟩ | ⟨_, rfl, rfl⟩
          · rw [wx, hw] at k2; cases k2
          · rw [← cm]; exact k4
        · cases k
        · cases k
      | true =>
        refine .inr (.inl ⟨obj', rfl, rfl, hal', fun r hr => ⟨oi, hi, .inr (.inr ⟨rfl, by rw [wy]; exact h2, ?_⟩)⟩⟩)
        have hsub : Sub H (H.set r (true, obj')) := fun c x hc => by
          have : c ≠ r := fun e => by rw [e, hr] at hc; cases hc
          rw [Hp.set_ne _ _ this]; exact hc
        refine ((h3.congr (ey a _)).up hsub).mono ?_
        rintro u K' ⟨H', ⟨q1, o', ho', h5⟩, f⟩
        rw [hj] at ho'; cases ho'
        rw [wx, hw] at h5
        obtain ⟨f1, f2⟩ := f.rest r _ hr (Hp.set_same _ _ _)
        refine ⟨fun x hx hb => let ⟨p, h⟩ := q1 x hx hb; ⟨p, f.sub _ _ h⟩, ?_⟩
        rcases h5 with ⟨w, F', k1, k2, k3, k4⟩ | ⟨obj2, k1, _, _, k4⟩ | ⟨k, _⟩
        · rcases k1 with k1 | k1 <;> cases k1
        · cases k1
          rw [← cm]
          refine hu _ _ _ _ ?_ (k4 r f2)
          intro c x hc
          unfold Hp.set at hc
          split at hc
          · rename_i e; cases hc; rw [e]; exact f1
          · exact f.sub c x hc
        · cases k

end
end Go.Proofs.YtfiephhdkloaeaaGreat.Ch
end

section
set_option linter.unusedVariables false
namespace Go.Proofs.YtfiephhdkloaeaaGreat.Ch
open Go Go.Conc

section
variable {P : Program} {main : Bool} {ops : Array Oper} {bf : Nat → Nat → Bool} {post : Act → Hp → Prop}

/-- Two operations may trade places: the second ahead of the first. -/
structure Trade (P : Program) (ops : Array Oper) (bf : Nat → Nat → Bool) (x y : Nat × Kd) : Prop where
  bf : bf x.1 y.1 = false
  sw : swapOK x.2 y.2 = true
  ap : ∀ oi oj, ops[x.1]? = some oi → ops[y.1]? = some oj → oi.apart ops oj = true

theorem front (hp : ∀ a H K, Sub H K → post a H → post a K) (hsel : ∀ (j : Nat) (o : Oper) cs b, ops[j]? = some o → o.op ≠ .select cs b) {y : Nat × Kd} {oy : Oper} (hy : ops[y.1]? = some oy)
    (hal : ∀ obj, y.2 = .a obj → AllocF P oy obj) {suf : List (Nat × Kd)} :
    ∀ (pre : List (Nat × Kd)), (∀ x ∈ pre, (∃ o, ops[x.1]? = some o) ∧ Trade P ops bf x y) → ∀ pd a H, SeqR P main ops bf post (pre ++ y :: suf) pd a H → SeqR P main ops bf post (y :: (pre ++ suf)) pd a H
  | [], _, pd, a, H, h => h
  | x :: pre, hx, pd, a, H, h => by
    obtain ⟨⟨ox, hox⟩, ht⟩ := hx x (List.mem_cons_self ..)
    have h1 : Step P main ops bf x.1 x.2 pd a H (SeqR P main ops bf post (y :: (pre ++ suf))) :=
      Step.mono (front hp hsel hy hal pre fun z hz => hx z (List.mem_cons_of_mem _ hz)) (show Step P main ops bf x.1 x.2 pd a H (SeqR P main ops bf post (pre ++ y :: suf)) from h)
    exact swap (SeqR.up hp _) (SeqR.anti _) hox hy (ht.ap _ _ hox hy) (fun cs b => hsel _ _ cs b hox) (fun cs b => hsel _ _ cs b hy) ht.bf ht.sw hal h1

/-- A step of the machine. -/
theorem Step.run {Stop : Goroutine → Hp → Prop} {frb : Frame} {k : List Item} {cs : List Frame} {i : Nat} {kd : Kd} {pd : Pd} {a : Act} {H : Hp} {rest : List Nat} {Φ : Pd → Act → Hp → Prop} (hk : frb.kind ≠ .early)
    (hs : Step P main ops bf i kd pd a H Φ) (hn : ∀ pd a' H', Φ pd a' H' → Run P main Stop (G (frb.at a' (.inRegion ops rest :: k)) cs) H') :
    Run P main Stop (G (frb.at a (.inRegion ops (i :: rest) :: k)) cs) H := by
  obtain ⟨o, ho, h⟩ := hs
  have quiet : ∀ v F, QF P ops o a v F → Held F H → Φ (tag i F ++ pd) (a.put o.dst v) H → Run P main Stop (G (frb.at a (.inRegion ops (i :: rest) :: k)) cs) H := by
    intro v F hq hF hΦ
    rcases hq with ⟨hw, hq⟩ | ⟨hw, rfl, rfl⟩
    · refine Run.op ho hw hk (wp_mono _ ?_ (fun _ _ h => h.elim) (hq H hF))
      rintro nx H' ⟨rfl, rfl⟩
      exact hn _ _ _ hΦ
    · refine Run.opSkip (by rw [ho]; exact hw) ?_
      rw [ho]; exact hn _ _ _ hΦ
  rcases h with ⟨v, F, h1, h2, h3, h4⟩ | ⟨obj, h1, h2, h3, h4⟩ | ⟨h1, h2, h3⟩
  · exact quiet v F h2 h3 h4
  · exact Run.op ho h2 hk (h3 a H _ _ fun r hr => hn _ _ _ (h4 r hr))
  · exact h3.run ho h2 hk fun v H' h => hn _ _ _ h.2

/-- What the order is checked for. -/
structure Canon (P : Program) (ops : Array Oper) (M : Nat → Nat) (σ : List (Nat × Kd)) : Prop where
  nodup : (σ.map (·.1)).Nodup
  all : ∀ i, i ∈ σ.map (·.1) ↔ i < ops.size
  masks : ∀ i o x, ops[i]? = some o → (M i).testBit x = true → ∃ e ∈ o.after, Region.binds .any e = true ∧ (x = e.on ∨ (M e.on).testBit x = true)
  topo : ∀ pre y suf o, σ = pre ++ y :: suf → ops[y.1]? = some o → ∀ e ∈ o.after, Region.binds .any e = true → e.on ∈ pre.map (·.1)
  pair : ∀ pre y suf, σ = pre ++ y :: suf → ∀ x ∈ pre, (M y.1).testBit x.1 = true ∨ Trade P ops (fun i j => (M j).testBit i) x y
  alloc : ∀ x ∈ σ, ∀ o obj, ops[x.1]? = some o → x.2 = .a obj → AllocF P o obj

def left (listed : Array Bool) (σ : List (Nat × Kd)) : List (Nat × Kd) := σ.filter fun x => !listed.getD x.1 true

theorem left_set {listed : Array Bool} {i : Nat} : ∀ (σ : List (Nat × Kd)), left (listed.setIfInBounds i true) σ = (left listed σ).filter fun x => x.1 != i
  | [] => rfl
  | x :: σ => by
    have ih := left_set (listed := listed) (i := i) σ
    unfold left at ih ⊢
    simp only [List.filter_cons]
    by_cases h : x.1 = i
    · have h1 : (listed.setIfInBounds i true).getD x.1 true = true := by
        rw [h]
        simp only [Array.getD_eq_getD_getElem?, Array.getElem?_setIfInBounds]
        simp only [if_true]
        split <;> simp
      simp only [h1, Bool.not_true, Bool.false_eq_true, if_false, ih]
      split
      · simp [h]
      · rfl
    · rw [getD_set_ne true (fun e => h e.symm), ih]
      split
      · simp [h]
      · rfl

theorem filter_split {σ : List (Nat × Kd)} {p : Nat × Kd → Bool} {pre suf : List (Nat × Kd)} {y : Nat × Kd} (h : σ.filter p = pre ++ y :: suf) : ∃ pre' suf', σ = pre' ++ y :: suf' ∧ pre = pre'.filter p ∧ p y = true := by
  induction σ generalizing pre with
  | nil => simp at h
  | cons x σ ih =>
    simp only [List.filter_cons] at h
    split at h
    · rename_i hx
      cases pre with
      | nil =>
        simp only [List.nil_append, List.cons.injEq] at h
        obtain ⟨rfl, h⟩ := h
        exact ⟨[], σ, rfl, rfl, hx⟩
      | cons z pre =>
        simp only [List.cons_append, List.cons.injEq] at h
        obtain ⟨rfl, h⟩ := h
        obtain ⟨pre', suf', h1, h2, h3⟩ := ih h
        exact ⟨x :: pre', suf', by rw [h1]; rfl, by rw [List.filter_cons, if_pos hx, h2], h3⟩
    · rename_i hx
      obtain ⟨pre', suf', h1, h2, h3⟩ := ih h
      exact ⟨x :: pre', suf', by rw [h1]; rfl, by rw [List.filter_cons, if_neg hx, h2], h3⟩

theorem seq_run {M : Nat → Nat} {σ0 : List (Nat × Kd)} (hc : Canon P ops M σ0) (hp : ∀ a H K, Sub H K → post a H → post a K) (hsel : Region.noSelect ops = true)
    {Stop : Goroutine → Hp → Prop} {frb : Frame} {k : List Item} {cs : List Frame} (hk : frb.kind ≠ .early)
    (hn : ∀ a' H', post a' H' → Run P main Stop (G (frb.at a' (.inRegion ops [] :: k)) cs) H') :
    ∀ (fuel t : Nat) (listed : Array Bool) (pd : Pd) (a : Act) (H : Hp), listed.size = ops.size → (left listed σ0).length = fuel →
      (∀ i, listed.getD i false = true → ∀ x, (M i).testBit x = true → listed.getD x false = true) →
      SeqR P main ops (fun i j => (M j).testBit i) post (left listed σ0) pd a H →
      Run P main Stop (G (frb.at a (.inRegion ops (Region.linearise.go .any ops fuel t listed []) :: k)) cs) H := by
  intro fuel
  induction fuel with
  | zero =>
    intro t listed pd a H hz hl hcl hs
    have : left listed σ0 = [] := List.eq_nil_of_length_eq_zero hl
    rw [this] at hs
    simpa [Region.linearise.go] using hn a H hs
  | succ fuel ih =>
    intro t listed pd a H hz hl hcl hs
    simp only [Region.linearise.go]
    change Run P main Stop (G (frb.at a (.inRegion ops (match (Region.ready .any ops listed)[t % (Region.ready .any ops listed).length]? with
      | some i => Region.linearise.go .any ops fuel (t / (Region.ready .any ops listed).length) (listed.setIfInBounds i true) [i]
      | none => [].reverse) :: k)) cs) H
    have hready : Region.ready .any ops listed ≠ [] := by
      intro hnil
      cases hlf : left listed σ0 with
      | nil => rw [hlf] at hl; cases hl
      | cons y suf =>
        obtain ⟨pre', suf', h1, h2, h3⟩ := filter_split (pre := []) (show σ0.filter _ = [] ++ y :: suf from hlf)
        have hlt : y.1 < ops.size := (hc.all y.1).1 (by rw [h1]; simp)
        have hy : y.1 ∈ Region.ready .any ops listed := by
          rw [mem_ready]
          refine ⟨by simpa using h3, ops[y.1], by simp [hlt], fun e he hb => ?_⟩
          have hmem := hc.topo pre' y suf' ops[y.1] h1 (by simp [hlt]) e he hb
          obtain ⟨z, hz1, hz2⟩ := List.mem_map.1 hmem
          have : z ∉ pre'.filter (fun x => !listed.getD x.1 true) := by rw [← h2]; simp
          have hzl : listed.getD z.1 true = true := by
            cases hh : listed.getD z.1 true with
            | true => rfl
            | false => exact absurd (List.mem_filter.2 ⟨hz1, by simp only [hh]; rfl⟩) this
          have hzlt : z.1 < listed.size := by
            rw [hz]; exact (hc.all z.1).1 (by rw [h1]; simp [hz1, List.mem_map]; exact .inl ⟨_, hz1⟩)
          rw [← hz2]
          simp only [Array.getD_eq_getD_getElem?, hzlt, Array.getElem?_eq_getElem, Option.getD_some] at hzl ⊢
          exact hzl
        rw [hnil] at hy; cases hy
    cases hi : (Region.ready .any ops listed)[t % (Region.ready .any ops listed).length]? with
    | none =>
      exfalso
      cases hr : Region.ready .any ops listed with
      | nil => exact hready hr
      | cons x xs =>
        rw [hr] at hi
        have hlt : t % (x :: xs).length < (x :: xs).length := Nat.mod_lt _ (by simp)
        simp at hi
        simp at hlt
        omega
    | some i =>
      simp only []
      rw [linearise_go_acc, List.reverse_singleton, List.singleton_append]
      have hir := List.mem_of_getElem? hi
      obtain ⟨hil, oi, hoi, hall⟩ := mem_ready.1 hir
      have hilt : i < ops.size := (Array.getElem?_eq_some_iff.1 hoi).1
      obtain ⟨y, hy, hyi⟩ := List.mem_map.1 ((hc.all i).2 hilt)
      have hyl : y ∈ left listed σ0 := List.mem_filter.2 ⟨hy, by rw [hyi, hil]; rfl⟩
      obtain ⟨pre, suf, hsplit⟩ := List.append_of_mem hyl
      obtain ⟨pre', suf', h1, h2, h3⟩ := filter_split (show σ0.filter _ = pre ++ y :: suf from hsplit)
      have hbits : ∀ x, (M i).testBit x = true → listed.getD x false = true := by
        intro x hx
        obtain ⟨e, he, hb, hx⟩ := hc.masks i oi x hoi hx
        rcases hx with rfl | hx
        · exact hall e he hb
        · exact hcl _ (hall e he hb) x hx
      have hunl : ∀ x ∈ pre, listed.getD x.1 true = false := by
        intro x hx
        have : x ∈ left listed σ0 := by rw [hsplit]; exact List.mem_append_left _ hx
        simpa using (List.mem_filter.1 this).2
      have htr : ∀ x ∈ pre, (∃ o, ops[x.1]? = some o) ∧ Trade P ops (fun i j => (M j).testBit i) x y := by
        intro x hx
        have hxp : x ∈ pre' := by rw [h2] at hx; exact (List.mem_filter.1 hx).1
        have hxlt : x.1 < ops.size := (hc.all x.1).1 (by rw [h1]; exact List.mem_map.2 ⟨x, List.mem_append_left _ hxp, rfl⟩)
        refine ⟨⟨ops[x.1], by simp [hxlt]⟩, ?_⟩
        rcases hc.pair pre' y suf' h1 x hxp with hb | ht
        · exfalso
          rw [hyi] at hb
          have h5 := hbits _ hb
          have h6 := hunl x hx
          have : x.1 < listed.size := by rw [hz]; exact hxlt
          simp only [Array.getD_eq_getD_getElem?, this, Array.getElem?_eq_getElem, Option.getD_some] at h5 h6
          rw [h5] at h6; cases h6
        · exact ht
      rw [hsplit] at hs
      have hoy : ops[y.1]? = some oi := by rw [hyi]; exact hoi
      have hs' := front hp (Region.noSelect_spec hsel) hoy (fun obj he => hc.alloc y hy oi obj hoy he) pre htr pd a H hs
      have hnew : left (listed.setIfInBounds i true) σ0 = pre ++ suf := by
        rw [left_set, hsplit]
        have hnd : ((pre ++ y :: suf).map (·.1)).Nodup := by
          rw [← hsplit]
          exact List.Nodup.sublist (List.Sublist.map _ List.filter_sublist) hc.nodup
        rw [List.map_append, List.map_cons, List.nodup_append] at hnd
        obtain ⟨_, n2, n3⟩ := hnd
        rw [List.filter_append, List.filter_cons]
        have e1 : pre.filter (fun x => x.1 != i) = pre := List.filter_eq_self.2 fun x hx => by
          simp only [bne_iff_ne, ne_eq]
          intro e
          exact n3 x.1 (List.mem_map.2 ⟨x, hx, rfl⟩) y.1 (List.mem_cons_self ..) (by rw [e, hyi])
        have e2 : suf.filter (fun x => x.1 != i) = suf := List.filter_eq_self.2 fun x hx => by
          simp only [bne_iff_ne, ne_eq]
          intro e
          exact (List.nodup_cons.1 n2).1 (by rw [hyi, ← e]; exact List.mem_map.2 ⟨x, hx, rfl⟩)
        rw [e1, e2, if_neg (by simp [hyi])]
      rw [← hyi] at hnew ⊢
      refine Step.run hk (show Step P main ops _ y.1 y.2 pd a H (SeqR P main ops _ post (pre ++ suf)) from hs') (fun pd' a' H' hΦ => ?_)
      refine ih _ _ pd' a' H' (by simp [hz]) ?_ ?_ (by rw [hnew]; exact hΦ)
      · rw [hnew]
        rw [hsplit] at hl
        simp only [List.length_append, List.length_cons] at hl ⊢
        omega
      · intro j hj x hx
        by_cases hji : j = i
        · subst hji
          exact getD_set_true (hbits x hx)
        · rw [hyi, getD_set_ne false (Ne.symm hji)] at hj
          exact getD_set_true (hcl j hj x hx)
end
end Go.Proofs.YtfiephhdkloaeaaGreat.Ch
end

section
set_option linter.unusedVariables false
namespace Go.Proofs.YtfiephhdkloaeaaGreat.Ch
open Go Go.Conc

section
variable {P : Program} {main : Bool} {T : Tab} {β : Nat → Nat} {n N : Nat} {e : Env} {b : Bx} {h H : Hp} {a : Act} {ops : Array Oper}

/-! ### the check of an order -/
def objOf (T : Tab) (o : Option Oper) : Obj :=
  match o with
  | some o => match o.op with
    | .alloc t => match T.ty t with
      | some ti => .cells (cellsL id ti.zero).toArray t (0, 0)
      | none => .cells #[] 0 (0, 0)
    | _ => .cells #[] 0 (0, 0)
  | none => .cells #[] 0 (0, 0)
def toKd (T : Tab) (ops : Array Oper) (x : Nat × Tn) : Nat × Kd := (x.1, match x.2 with
  | .q => .q
  | .g => .g
  | .a => .a (objOf T (ops.toList[x.1]?)))

theorem canonGo_out {l : List Oper} {ms : List Nat} : ∀ {pre σ : List (Nat × Tn)}, canonGo T ops l ms pre σ = true → ∀ pre2 y suf2, σ = pre2 ++ y :: suf2 →
    ∃ o, l[y.1]? = some o ∧ (∀ e ∈ o.after, Region.binds .any e = true → ∃ x ∈ pre ++ pre2, x.1 = e.on) ∧
      (∀ x ∈ pre ++ pre2, (ms.getD y.1 0).testBit x.1 = true ∨ (swapT x.2 y.2 = true ∧ ∃ ox, l[x.1]? = some ox ∧ ox.apart ops o = true)) ∧ (∀ x ∈ pre ++ pre2, x.1 ≠ y.1) ∧
      (y.2 = .a → ∃ t ti, o.op = .alloc t ∧ T.ty t = some ti)
  | pre, [], _, pre2, y, suf2, hs => by simp at hs
  | pre, z :: σ, hc, pre2, y, suf2, hs => by
    unfold canonGo at hc
    simp only [Bool.and_eq_true] at hc
    obtain ⟨⟨⟨h1, h2⟩, h3⟩, h4⟩ := hc
    cases pre2 with
    | nil =>
      simp only [List.nil_append, List.cons.injEq] at hs
      obtain ⟨rfl, rfl⟩ := hs
      simp only [List.append_nil]
      split at h1
      · cases h1
      · rename_i o ho
        simp only [Bool.and_eq_true] at h1
        refine ⟨o, ho, fun e he hb => ?_, fun x hx => ?_, fun x hx => ?_, fun hy => ?_⟩
        · have := List.all_eq_true.1 h1.1 e (Array.mem_def.1 he)
          rw [hb] at this
          simp only [Bool.not_true, Bool.false_or] at this
          obtain ⟨x, hx, hxe⟩ := List.any_eq_true.1 this
          exact ⟨x, hx, by simpa using hxe⟩
        · have := List.all_eq_true.1 h1.2 x hx
          simp only [Bool.or_eq_true, Bool.and_eq_true] at this
          rcases this with h | ⟨h, h'⟩
          · exact .inl h
          · refine .inr ⟨h, ?_⟩
            split at h'
            · rename_i ox hox; exact ⟨ox, hox, h'⟩
            · cases h'
        · have := List.all_eq_true.1 h2 x hx
          simpa using this
        · rw [hy] at h3
          simp only [ho] at h3
          split at h3
          · rename_i t ht
            obtain ⟨ti, hti⟩ := Option.isSome_iff_exists.1 h3
            exact ⟨t, ti, ht, hti⟩
          · cases h3
    | cons w pre2 =>
      simp only [List.cons_append, List.cons.injEq] at hs
      obtain ⟨rfl, hs⟩ := hs
      have := canonGo_out h4 pre2 y suf2 hs
      simpa only [List.append_assoc, List.cons_append, List.nil_append] using this

theorem allocF_of (hT : TabOK P T) {o : Oper} {t : TypeId} {ti : TI} (ho : o.op = .alloc t) (ht : T.ty t = some ti) : AllocF P o (.cells (cellsL id ti.zero).toArray t (0, 0)) := by
  intro a H Q E hq
  obtain ⟨_, ⟨inf, z, hi, hz, hc, hb, hw⟩, _⟩ := hT.ty t ti ht
  have : execOp a.eval o = (do pure (.value (← Instr.alloc t true (.tuple #[])))) := by unfold execOp; rw [ho]
  rw [this]
  refine wpB ?_
  show wp P (do let zero ← zeroValue t; pure (Value.pointer (some (← newVar t zero)))) H _ _
  refine wpB (show wp P (zeroValue t) H _ _ from wpB (wp_typeInfo hi ?_))
  rw [hz]
  refine wpB (wp_newVar fun r hr => ?_)
  rw [hc]
  exact hq r hr

theorem maskOf_bit {ms : List Nat} {o : Oper} {x : Nat} (hx : (maskOf ms o).testBit x = true) : ∃ e ∈ o.after, Region.binds .any e = true ∧ (x = e.on ∨ (ms.getD e.on 0).testBit x = true) := by
  unfold maskOf at hx
  have key : ∀ (l : List Edge) (s : Nat), (l.foldl (fun s e => if Region.binds .any e then s ||| 2 ^ e.on ||| ms.getD e.on 0 else s) s).testBit x = true →
      s.testBit x = true ∨ ∃ e ∈ l, Region.binds .any e = true ∧ (x = e.on ∨ (ms.getD e.on 0).testBit x = true) := by
    intro l
    induction l with
    | nil => intro s h; exact .inl h
    | cons e l ih =>
      intro s h
      rw [List.foldl_cons] at h
      rcases ih _ h with h | ⟨e', he', h⟩
      · split at h
        · rename_i hb
          simp only [Nat.testBit_or, Bool.or_eq_true] at h
          rcases h with (h | h) | h
          · exact .inl h
          · refine .inr ⟨e, List.mem_cons_self .., hb, .inl ?_⟩
            rw [Nat.testBit_two_pow] at h
            exact (by simpa using h : e.on = x).symm
          · exact .inr ⟨e, List.mem_cons_self .., hb, .inr h⟩
        · exact .inl h
      · exact .inr ⟨e', List.mem_cons_of_mem _ he', h⟩
  rcases key _ 0 hx with h | ⟨e, he, h⟩
  · simp at h
  · exact ⟨e, Array.mem_def.2 he, h⟩

theorem canon_of (hT : TabOK P T) {σ : List (Nat × Tn)} {ms : List Nat} (hc : canonB T ops σ ms = true) : Canon P ops (fun i => ms.getD i 0) (σ.map (toKd T ops)) ∧ Region.noSelect ops = true := by
  unfold canonB at hc
  simp only [Bool.and_eq_true] at hc
  obtain ⟨⟨⟨h1, h2⟩, h3⟩, h4⟩ := hc
  have hsz : ops.toList.length = ops.size := by simp
  have get : ∀ i : Nat, ops.toList[i]? = ops[i]? := fun i => by simp
  have split : ∀ pre' y' suf', σ.map (toKd T ops) = pre' ++ y' :: suf' → ∃ pre y suf, σ = pre ++ y :: suf ∧ pre' = pre.map (toKd T ops) ∧ y' = toKd T ops y := by
    intro pre' y' suf' h
    obtain ⟨pre, l2, e1, e2, e3⟩ := List.map_eq_append_iff.1 h
    obtain ⟨y, suf, e4, e5, e6⟩ := List.map_eq_cons_iff.1 e3
    exact ⟨pre, y, suf, by rw [e1, e4], e2.symm, e5.symm⟩
  have kd1 : ∀ x, (toKd T ops x).1 = x.1 := fun x => rfl
  have hmap : (σ.map (toKd T ops)).map (·.1) = σ.map (·.1) := by rw [List.map_map]; rfl
  refine ⟨⟨?_, ?_, ?_, ?_, ?_, ?_⟩, ?_⟩
  · rw [hmap]
    have key : ∀ pre σ, canonGo T ops ops.toList ms pre σ = true → (σ.map (·.1)).Nodup := by
      intro pre σ h
      induction σ generalizing pre with
      | nil => simp
      | cons y σ ih =>
        have h5 := h
        unfold canonGo at h
        simp only [Bool.and_eq_true] at h
        rw [List.map_cons, List.nodup_cons]
        refine ⟨fun hm => ?_, ih _ h.2⟩
        obtain ⟨z, hz1, hz2⟩ := List.mem_map.1 hm
        obtain ⟨p2, s2, hz3⟩ := List.append_of_mem hz1
        obtain ⟨o, _, _, _, hne, _⟩ := canonGo_out h5 (y :: p2) z s2 (by rw [hz3]; rfl)
        exact hne y (List.mem_append_right _ (List.mem_cons_self ..)) hz2.symm
    exact key [] σ h4
  · intro i
    rw [hmap]
    constructor
    · intro hm
      obtain ⟨z, hz1, rfl⟩ := List.mem_map.1 hm
      obtain ⟨p2, s2, hz3⟩ := List.append_of_mem hz1
      obtain ⟨o, ho, _⟩ := canonGo_out h4 p2 z s2 hz3
      rw [get] at ho
      exact (Array.getElem?_eq_some_iff.1 ho).1
    · intro hi
      have := List.all_eq_true.1 h2 i (List.mem_range.2 (by rw [hsz]; exact hi))
      obtain ⟨x, hx, hxe⟩ := List.any_eq_true.1 this
      exact List.mem_map.2 ⟨x, hx, by simpa using hxe⟩
  · intro i o x ho hx
    have hi : i < ops.size := (Array.getElem?_eq_some_iff.1 ho).1
    have := List.all_eq_true.1 h3 i (List.mem_range.2 (by rw [hsz]; exact hi))
    rw [get, ho] at this
    have h5 : ms.getD i 0 = maskOf ms o := by simpa using this
    have hx' : (ms.getD i 0).testBit x = true := hx
    rw [h5] at hx'
    exact maskOf_bit hx'
  · intro pre' y' suf' o hs ho e he hb
    obtain ⟨pre, y, suf, e1, rfl, rfl⟩ := split _ _ _ hs
    obtain ⟨o', ho', k1, _⟩ := canonGo_out h4 pre y suf e1
    rw [get] at ho'
    rw [kd1, ho'] at ho; cases ho
    obtain ⟨x, hx, hxe⟩ := k1 e he hb
    simp only [List.nil_append] at hx
    exact List.mem_map.2 ⟨toKd T ops x, List.mem_map.2 ⟨x, hx, rfl⟩, hxe⟩
  · intro pre' y' suf' hs x' hx'
    obtain ⟨pre, y, suf, e1, rfl, rfl⟩ := split _ _ _ hs
    obtain ⟨x, hx, rfl⟩ := List.mem_map.1 hx'
    obtain ⟨o', ho', _, k2, _⟩ := canonGo_out h4 pre y suf e1
    by_cases hb : (ms.getD y.1 0).testBit x.1 = true
    · exact .inl hb
    · right
      rcases k2 x (by simpa using hx) with k | ⟨k, ox, hox, kap⟩
      · exact absurd k hb
      · rw [get] at ho' hox
        refine ⟨(show (ms.getD y.1 0).testBit x.1 = false from by simpa using hb), ?_, fun oi oj hi hj => ?_⟩
        · unfold toKd
          cases hx2 : x.2 <;> cases hy2 : y.2 <;> simp [swapOK, swapT, hx2, hy2] at k ⊢
        · rw [kd1] at hi hj
          rw [hox] at hi; rw [ho'] at hj
          cases hi; cases hj
          exact kap
  · intro x' hx' o obj ho hk
    obtain ⟨x, hx, rfl⟩ := List.mem_map.1 hx'
    obtain ⟨p2, s2, hz3⟩ := List.append_of_mem hx
    obtain ⟨o', ho', _, _, _, k⟩ := canonGo_out h4 p2 x s2 hz3
    have ho2 := ho'
    rw [get] at ho'
    rw [kd1, ho'] at ho; cases ho
    unfold toKd at hk
    cases hx2 : x.2 with
    | q => rw [hx2] at hk; cases hk
    | g => rw [hx2] at hk; cases hk
    | a =>
      obtain ⟨t, ti, e1, e2⟩ := k hx2
      rw [hx2] at hk
      simp only [Kd.a.injEq] at hk
      subst hk
      rw [ho2]
      simp only [objOf, e1, e2]
      exact allocF_of hT e1 e2
  · unfold noSel at h1
    unfold Region.noSelect
    rw [← Array.all_toList]
    exact h1

/-! ### slots -/
def Fit (N : Nat) (a : Act) : Prop := a.tmps.size = N ∧ a.defers = []

theorem RelE.put (hE : RelE β n e a) (ha : Fit N a) {d : Nat} (hd : d < N) {v : AV} (hv : v.bd n = true ∧ v.wf) : RelE β n ((d, v) :: e) (a.put (some d) (v.val β)) := by
  intro t w hl
  simp only [lk] at hl
  cases hdt : Nat.beq d t with
  | true =>
    simp only [hdt, cond_true] at hl
    cases hl
    have := Nat.eq_of_beq_eq_true hdt
    subst this
    refine ⟨?_, hv⟩
    simp only [Act.put]
    rw [Array.getElem?_setIfInBounds]
    simp only [if_true]
    rw [if_pos (by have := ha.1; omega)]
  | false =>
    simp only [hdt, cond_false] at hl
    obtain ⟨h1, h2⟩ := hE t w hl
    refine ⟨?_, h2⟩
    simp only [Act.put]
    rw [Array.getElem?_setIfInBounds_ne (Nat.ne_of_beq_eq_false hdt)]
    exact h1

theorem put_size {dst : Option Tmp} {v : Value} (ha : Fit N a) : Fit N (a.put dst v) := by
  cases dst with
  | none => exact ha
  | some d => exact ⟨by simp [Act.put, ha.1], ha.2⟩

theorem putE_out (hE : RelE β n e a) (ha : Fit N a) {dst : Option Tmp} {v : AV} (hv : v.bd n = true ∧ v.wf) {K : Env → Prop} (hp : putE N dst v e K) :
    ∃ e', K e' ∧ RelE β n e' (a.put dst (v.val β)) := by
  cases dst with
  | none => exact ⟨e, hp, hE⟩
  | some d =>
    simp only [putE] at hp
    cases hd : Nat.blt d N with
    | false => simp only [hd, cond_false] at hp
    | true =>
      simp only [hd, cond_true] at hp
      have hlt : d < N := by simpa [Nat.blt_eq] using hd
      exact ⟨_, hp, hE.put ha hlt hv⟩

/-- What holds behind. -/
def After (N : Nat) (K : SP) (a : Act) (H : Hp) : Prop := ∃ β n e b h, RelE β n e a ∧ RelB β n b h H ∧ Fit N a ∧ K e n b h

theorem RelB.up (hB : RelB β n b h H) {K : Hp} (hs : Sub H K) : RelB β n b h K :=
  ⟨fun c x hc => hs c x (hB.sub c x hc), fun i Ty cs hi => let ⟨h1, h2, h3, h4⟩ := hB.box i Ty cs hi; ⟨h1, h2, hs _ _ h3, h4⟩, hB.inj⟩

theorem After.up {K : SP} : ∀ a H H', Sub H H' → After N K a H → After N K a H' := fun a H H' hs ⟨β, n, e, b, h, h1, h2, h3, h4⟩ => ⟨β, n, e, b, h, h1, h2.up hs, h3, h4⟩

theorem yielded_of (hE : RelE β n e a) {j : Nat} {d : Tmp} {t : Bool} (hd : (ops.toList[j]?).bind (·.dst) = some d) (hl : lk e d = some (.bool t)) : yielded ops a.tmps j = some t := by
  have hd' : (ops[j]?).bind (·.dst) = some d := by simpa using hd
  unfold yielded
  obtain ⟨h1, -⟩ := hE d _ hl
  rw [hd', Option.bind_some, h1]
  rfl

theorem wanted_none {o : Oper} (hg : o.guard = none) : Region.wanted o (yielded ops a.tmps) = true := by unfold Region.wanted; rw [hg]
theorem wanted_some {o : Oper} {j : Nat} {w t : Bool} (hg : o.guard = some (j, w)) (hy : yielded ops a.tmps j = some t) : Region.wanted o (yielded ops a.tmps) = (t == w) := by
  unfold Region.wanted; rw [hg]; simp only [hy]; cases t <;> cases w <;> rfl

theorem unwanted_tup (hE : RelE β n e a) {o : Oper} {j : Nat} {d : Tmp} {w : Bool} {vs : List AV} (hg : o.guard = some (j, w)) (hd : (ops.toList[j]?).bind (·.dst) = some d) (hl : lk e d = some (.tup vs)) :
    Region.wanted o (yielded ops a.tmps) = false := by
  have hd' : (ops[j]?).bind (·.dst) = some d := by simpa using hd
  obtain ⟨h1, -⟩ := hE d _ hl
  have hy : yielded ops a.tmps j = none := by
    unfold yielded
    rw [hd', Option.bind_some, h1]
    rfl
  unfold Region.wanted; rw [hg]; simp only [hy]; cases w <;> rfl

theorem PdOK.zip_filter {β : Nat → Nat} {b : Bx} {h : Hp} (p : Nat → Bool) : ∀ {pd : List (Nat × AV)} {L : List (Nat × Obj)}, PdOK β b h (pd.map (·.2)) L →
    ∃ L', PdOK β b h ((pd.filter fun x => p x.1).map (·.2)) L' ∧ (((pd.map (·.1)).zip L).filter fun x => p x.1) = ((pd.filter fun x => p x.1).map (·.1)).zip L'
  | [], L, hp => by cases hp; exact ⟨[], rfl, rfl⟩
  | (i, v) :: pd, L, hp => by
    have cut : ∃ y L', L = y :: L' ∧ PdOK β b h (pd.map (·.2)) L' ∧ (∀ L2, PdOK β b h (pd.map (·.2)) L2 → True) ∧ ∀ vs L2, PdOK β b h vs L2 → PdOK β b h (v :: vs) (y :: L2) := by
      cases v with
      | ptr ad => obtain ⟨q, o, L', h1, h2, h3⟩ := hp; exact ⟨_, L', h2, h3, fun _ _ => trivial, fun vs L2 h4 => ⟨q, o, L2, h1, rfl, h4⟩⟩
      | bptr id of ad => obtain ⟨q, o, L', h1, h2, h3⟩ := hp; exact ⟨_, L', h2, h3, fun _ _ => trivial, fun vs L2 h4 => ⟨q, o, L2, h1, rfl, h4⟩⟩
      | _ => exact hp.elim
    obtain ⟨y, L', rfl, h2, _, h3⟩ := cut
    obtain ⟨L2, k1, k2⟩ := PdOK.zip_filter p h2
    simp only [List.map_cons, List.zip_cons_cons, List.filter_cons]
    by_cases hi : p i = true
    · simp only [hi, if_true]
      exact ⟨y :: L2, h3 _ _ k1, by simp only [List.map_cons, List.zip_cons_cons, k2]⟩
    · simp only [hi, Bool.false_eq_true, if_false]
      exact ⟨L2, k1, k2⟩

theorem PdOK.append {β : Nat → Nat} {b : Bx} {h : Hp} : ∀ {xs ys : List AV} {L M : List (Nat × Obj)}, PdOK β b h xs L → PdOK β b h ys M → PdOK β b h (xs ++ ys) (L ++ M)
  | [], ys, L, M, h1, h2 => by cases h1; exact h2
  | v :: xs, ys, L, M, h1, h2 => by
    cases v with
    | ptr ad => obtain ⟨q, o, L', k1, rfl, k3⟩ := h1; exact ⟨q, o, L' ++ M, k1, rfl, PdOK.append k3 h2⟩
    | bptr id of ad => obtain ⟨q, o, L', k1, rfl, k3⟩ := h1; exact ⟨q, o, L' ++ M, k1, rfl, PdOK.append k3 h2⟩
    | _ => exact h1.elim
theorem PdOK.length {β : Nat → Nat} {b : Bx} {h : Hp} : ∀ {xs : List AV} {L : List (Nat × Obj)}, PdOK β b h xs L → xs.length = L.length
  | [], L, h1 => by cases h1; rfl
  | v :: xs, L, h1 => by
    cases v with
    | ptr ad => obtain ⟨q, o, L', k1, rfl, k3⟩ := h1; simp [PdOK.length k3]
    | bptr id of ad => obtain ⟨q, o, L', k1, rfl, k3⟩ := h1; simp [PdOK.length k3]
    | _ => exact h1.elim
end
end Go.Proofs.YtfiephhdkloaeaaGreat.Ch
end

section
set_option linter.unusedVariables false
namespace Go.Proofs.YtfiephhdkloaeaaGreat.Ch
open Go Go.Conc

section
variable {P : Program} {main : Bool} {T : Tab} {N : Nat} {ops : Array Oper}

theorem zip_tag (i : Nat) : ∀ (xs : List AV) (F : List (Nat × Obj)) (ps : List Nat) (L : List (Nat × Obj)), xs.length = F.length →
    (((xs.map fun x => (i, x)).map (·.1)) ++ ps).zip (F ++ L) = tag i F ++ ps.zip L
  | [], [], ps, L, _ => rfl
  | x :: xs, f :: F, ps, L, h => by
    simp only [List.map_cons, List.cons_append, List.zip_cons_cons, tag]
    rw [zip_tag i xs F ps L (by simpa using h)]
    rfl
  | [], f :: F, ps, L, h => by simp at h
  | x :: xs, [], ps, L, h => by simp at h

theorem map_fst_zip' : ∀ (ps : List Nat) (vs : List AV), ps.length = vs.length → (ps.zip vs).map (·.1) = ps ∧ (ps.zip vs).map (·.2) = vs
  | [], [], _ => ⟨rfl, rfl⟩
  | p :: ps, v :: vs, h => by
    obtain ⟨h1, h2⟩ := map_fst_zip' ps vs (by simpa using h)
    exact ⟨by rw [List.zip_cons_cons, List.map_cons, h1], by rw [List.zip_cons_cons, List.map_cons, h2]⟩
  | [], v :: vs, h => by simp at h
  | p :: ps, [], h => by simp at h

theorem vcSeq_sound (hT : TabOK P T) {M : Nat → Nat} {K : SP} (hsel : Region.noSelect ops = true) : ∀ (σ : List (Nat × Tn)) {e : Env} {n : Nat} {b : Bx} {h : Hp} {pd : List (Nat × AV)}, vcSeq P main T N ops.toList M σ e n b h pd K →
    ∀ {β : Nat → Nat} {a : Act} {H : Hp}, RelE β n e a → RelB β n b h H → Fit N a → ∀ {L : List (Nat × Obj)}, PdOK β b h (pd.map (·.2)) L →
      SeqR P main ops (fun i j => (M j).testBit i) (After N K) (σ.map (toKd T ops)) ((pd.map (·.1)).zip L) a H
  | [], e, n, b, h, pd, hv, β, a, H, hE, hB, ha, L, hL => ⟨β, n, e, b, h, hE, hB, ha, hv⟩
  | (i, tn) :: σ, e, n, b, h, pd, hv, β, a, H, hE, hB, ha, L, hL => by
    unfold vcSeq at hv
    cases ho : ops.toList[i]? with
    | none => simp only [ho] at hv
    | some o =>
    have ho' : ops[i]? = some o := by simpa using ho
    have hnosel := Region.noSelect_spec hsel
    simp only [ho] at hv
    show Step P main ops _ i (toKd T ops (i, tn)).2 _ a H (SeqR P main ops _ (After N K) (σ.map (toKd T ops)))
    -- not wanted
    have skip : Region.wanted o (yielded ops a.tmps) = false → putE N o.dst (.tup []) e (fun e' => vcSeq P main T N ops.toList M σ e' n b h pd K) →
        Step P main ops (fun i j => (M j).testBit i) i (toKd T ops (i, tn)).2 ((pd.map (·.1)).zip L) a H (SeqR P main ops (fun i j => (M j).testBit i) (After N K) (σ.map (toKd T ops))) := by
      intro hw hp
      obtain ⟨e', h1, h2⟩ := putE_out hE ha (v := .tup []) ⟨rfl, trivial⟩ hp
      exact ⟨o, ho', .inl ⟨undef, [], .inr hw, .inr ⟨hw, rfl, rfl⟩, Held.nil, vcSeq_sound hT hsel σ h1 h2 hB (put_size ha) hL⟩⟩
    have quiet : ∀ {av : AV} {F : List (Nat × Obj)} {q : List AV}, tn = .q → Region.wanted o (yielded ops a.tmps) = true → (av.bd n = true ∧ av.wf) → PdOK β b h q F →
        putE N o.dst av e (fun e' => vcSeq P main T N ops.toList M σ e' n b h ((q.map fun x => (i, x)) ++ pd) K) →
        (∀ H', Held F H' → wp P (execOp a.eval o) H' (fun nx H'' => nx = .value (av.val β) ∧ H'' = H') (fun _ _ => False)) →
        Step P main ops (fun i j => (M j).testBit i) i (toKd T ops (i, tn)).2 ((pd.map (·.1)).zip L) a H (SeqR P main ops (fun i j => (M j).testBit i) (After N K) (σ.map (toKd T ops))) := by
      intro av F q htn hw hb hq hp hx
      obtain ⟨e', h1, h2⟩ := putE_out hE ha hb hp
      refine ⟨o, ho', .inl ⟨_, F, .inl (by rw [htn]; rfl), .inl ⟨hw, hx⟩, hq.held hB, ?_⟩⟩
      have := vcSeq_sound hT hsel σ h1 h2 hB (put_size ha) (L := F ++ L) (by rw [List.map_append, List.map_map]; exact PdOK.append (by simpa [Function.comp_def] using hq) hL)
      rw [List.map_append, zip_tag i q F _ L hq.length] at this
      exact this
    have go : Region.wanted o (yielded ops a.tmps) = true → (match tn with
        | .q => bif quietOp o.op then vcQ T o.op e b h (fun v => putE N o.dst v e (fun e' => vcSeq P main T N ops.toList M σ e' n b h ((pdQ e o.op).map (fun x => (i, x)) ++ pd) K))
            (match evs e o.op.operands.toList with
            | some vs => bif bdL 0 vs then OpP P (execOp (fun x => ((ev e x).getD .nilp).val id) o) (fun v => putE N o.dst v e (fun e' => vcSeq P main T N ops.toList M σ e' n b h pd K)) else False
            | none => False) else False
        | .a => match o.op with
          | .alloc t => match T.ty t with
            | some ti => putE N o.dst (.bptr n 0 0) e (fun e' => vcSeq P main T N ops.toList M σ e' (n + 1) ((n, t, ti.zero) :: b) h pd K)
            | none => False
          | _ => False
        | .g => vcOp P main T o e n b h ((pd.filter fun x => !(M i).testBit x.1).map (·.2)) (fun v e n b h pd' => putE N o.dst v e (fun e' => vcSeq P main T N ops.toList M σ e' n b h (((pd.filter fun x => !(M i).testBit x.1).map (·.1)).zip pd') K))) →
        Step P main ops (fun i j => (M j).testBit i) i (toKd T ops (i, tn)).2 ((pd.map (·.1)).zip L) a H (SeqR P main ops (fun i j => (M j).testBit i) (After N K) (σ.map (toKd T ops))) := by
      intro hw hg
      cases htn : tn with
      | q =>
        rw [htn] at hg
        simp only at hg
        cases hq : quietOp o.op with
        | false => simp only [hq, cond_false] at hg
        | true =>
          simp only [hq, cond_true] at hg
          rw [← htn]
          rcases vcQ_sound hT hE hB hg with ⟨F, k1, av, k2, k3, k4⟩ | hg
          · exact quiet htn hw k2 k1 k3 k4
          · cases hx : evs e o.op.operands.toList with
            | none => simp only [hx] at hg
            | some vs =>
              simp only [hx] at hg
              cases hc : bdL 0 vs with
              | false => simp only [hc, cond_false] at hg
              | true =>
                simp only [hc, cond_true] at hg
                obtain ⟨r, r1, r2, r3, r4⟩ := hg.out
                have hcong : execOp (fun x => ((ev e x).getD .nilp).val id) o = execOp a.eval o := by
                  refine execOp_congr o (fun cs b => hnosel i o cs b ho') fun x hm => ?_
                  obtain ⟨v, hv1, hv2⟩ := evs_mem hx (Array.mem_def.1 hm)
                  have := (hE.ev hv1).1
                  simp only [hv1, Option.getD_some, this]
                  exact val_of_closed (bdL_mem hc hv2) _ _
                refine quiet (av := r) (F := []) (q := []) htn hw ⟨AV.bd_mono (Nat.zero_le _) _ r1, r2⟩ rfl r4 (fun H' _ => ?_)
                rw [← hcong, val_of_closed r1 β id]
                exact r3 H'
      | a =>
        rw [htn] at hg
        simp only at hg
        split at hg
        · rename_i t hop
          split at hg
          · rename_i ti hti
            obtain ⟨_, ⟨inf, z, hi, hz, hc, hb, hwf⟩, _⟩ := hT.ty t ti hti
            refine ⟨o, ho', .inr (.inl ⟨.cells (cellsL id ti.zero).toArray t (0, 0), ?_, hw, allocF_of hT hop hti, fun r hr => ?_⟩)⟩
            · show Kd.a (objOf T (ops.toList[i]?)) = _
              rw [ho]
              simp only [objOf, hop, hti]
            · obtain ⟨e', h1, h2⟩ := putE_out (hE.newBox r) ha (v := .bptr n 0 0) ⟨by simp [AV.bd], trivial⟩ hg
              have hv : (AV.bptr n 0 0).val (upB β n r) = .pointer (some ⟨r, 0, none⟩) := by simp [AV.val, upB]
              rw [hv] at h2
              refine vcSeq_sound hT hsel σ h1 h2 ?_ (put_size ha) (hL.newBox hB)
              have := hB.newBox hr t ti.zero (bdL_mono (Nat.zero_le _) _ hb) hwf
              rw [cellsL_of_closed hb id β]
              exact this
          · exact hg.elim
        · exact hg.elim
      | g =>
        rw [htn] at hg
        simp only at hg
        refine ⟨o, ho', .inr (.inr ⟨rfl, hw, ?_⟩)⟩
        refine (vcOp_sound hT hE hB hg).mono ?_
        rintro v H' ⟨β', av, e', n', b', h', pd', rfl, k1, k2, k3, k4, k5⟩
        obtain ⟨L', l1, l2⟩ := PdOK.zip_filter (fun j => !(M i).testBit j) hL
        obtain ⟨e2, q1, q2⟩ := putE_out k2 ha k1 k5
        have hl' := k4 L' l1
        refine ⟨fun x hx hbf => ?_, ?_⟩
        · have : x ∈ ((pd.map (·.1)).zip L).filter (fun x => !(M i).testBit x.1) := List.mem_filter.2 ⟨hx, by simpa using hbf⟩
          rw [l2] at this
          have hm : x.2 ∈ L' := (List.of_mem_zip this).2
          exact hl'.held k3 x.2 hm
        · rw [l2]
          have hlen : ((pd.filter fun x => !(M i).testBit x.1).map (·.1)).length = pd'.length := by
            rw [hl'.length, ← l1.length]; simp
          obtain ⟨z1, z2⟩ := map_fst_zip' _ _ hlen
          have := vcSeq_sound hT hsel σ q1 q2 k3 (put_size ha) (L := L') (by rw [z2]; exact hl')
          rw [z1] at this
          exact this
    cases hg : o.guard with
    | none =>
      simp only [hg] at hv
      exact go (wanted_none hg) hv
    | some jw =>
      obtain ⟨j, want⟩ := jw
      simp only [hg] at hv
      cases hd : (ops.toList[j]?).bind (·.dst) with
      | none => simp only [hd] at hv
      | some d =>
        simp only [hd] at hv
        split at hv
        · rename_i t hl
          have hw := wanted_some (a := a) hg (yielded_of hE hd hl)
          cases want with
          | true =>
            simp only at hv
            rcases brc_cases hv with ⟨rfl, hv⟩ | ⟨rfl, hv⟩
            · exact go hw hv
            · exact skip hw hv
          | false =>
            simp only at hv
            rcases brc_cases hv with ⟨rfl, hv⟩ | ⟨rfl, hv⟩
            · exact skip hw hv
            · exact go hw hv
        · rename_i vs hl
          exact skip (unwanted_tup hE hg hd hl) hv
        · exact hv.elim

/-! ### regions in the order of the text -/
variable {Stop : Goroutine → Hp → Prop} {frb : Frame} {cs : List Frame}

theorem vcOps_sound (hT : TabOK P T) (hk : frb.kind ≠ .early) {K : SP} {k : List Item} (hn : ∀ a' H', After N K a' H' → Run P main Stop (G (frb.at a' (.inRegion ops [] :: k)) cs) H') :
    ∀ (l : List Oper) (k0 : Nat) {e : Env} {n : Nat} {b : Bx} {h : Hp}, ops.toList.drop k0 = l → vcOps P main T N ops.toList l e n b h K →
    ∀ {β : Nat → Nat} {a : Act} {H : Hp}, RelE β n e a → RelB β n b h H → Fit N a → Run P main Stop (G (frb.at a (.inRegion ops (List.range' k0 l.length) :: k)) cs) H
  | [], k0, e, n, b, h, _, hv, β, a, H, hE, hB, ha => hn a H ⟨β, n, e, b, h, hE, hB, ha, hv⟩
  | o :: l, k0, e, n, b, h, hd, hv, β, a, H, hE, hB, ha => by
    have ho : ops[k0]? = some o := by
      have : (ops.toList.drop k0)[0]? = some o := by rw [hd]; rfl
      rw [List.getElem?_drop] at this
      simpa using this
    have hd' : ops.toList.drop (k0 + 1) = l := by
      have : ops.toList.drop (k0 + 1) = (ops.toList.drop k0).drop 1 := by rw [List.drop_drop, Nat.add_comm]
      rw [this, hd]; rfl
    simp only [List.length_cons, List.range'_succ]
    have go : Region.wanted o (yielded ops a.tmps) = true → vcOp P main T o e n b h [] (fun v e n b h _ => putE N o.dst v e (fun e => vcOps P main T N ops.toList l e n b h K)) →
        Run P main Stop (G (frb.at a (.inRegion ops (k0 :: List.range' (k0 + 1) l.length) :: k)) cs) H := by
      intro hw hg
      refine (vcOp_sound hT hE hB hg).run ho hw hk ?_
      rintro v H' ⟨β', av, e', n', b', h', pd', rfl, k1, k2, k3, _, k5⟩
      obtain ⟨e2, q1, q2⟩ := putE_out k2 ha k1 k5
      exact vcOps_sound hT hk hn l (k0 + 1) hd' q1 q2 k3 (put_size ha)
    have skip : Region.wanted o (yielded ops a.tmps) = false → putE N o.dst (.tup []) e (fun e => vcOps P main T N ops.toList l e n b h K) →
        Run P main Stop (G (frb.at a (.inRegion ops (k0 :: List.range' (k0 + 1) l.length) :: k)) cs) H := by
      intro hw hp
      obtain ⟨e2, q1, q2⟩ := putE_out hE ha (v := .tup []) ⟨rfl, trivial⟩ hp
      refine Run.opSkip (by rw [ho]; exact hw) ?_
      rw [ho]
      exact vcOps_sound hT hk hn l (k0 + 1) hd' q1 q2 hB (put_size ha)
    unfold vcOps at hv
    cases hg : o.guard with
    | none =>
      simp only [hg] at hv
      exact go (wanted_none hg) hv
    | some jw =>
      obtain ⟨j, want⟩ := jw
      simp only [hg] at hv
      cases hd : (ops.toList[j]?).bind (·.dst) with
      | none => simp only [hd] at hv
      | some d =>
        simp only [hd] at hv
        split at hv
        · rename_i t hl
          have hw := wanted_some (a := a) hg (yielded_of hE hd hl)
          cases want with
          | true =>
            simp only at hv
            rcases brc_cases hv with ⟨rfl, hv⟩ | ⟨rfl, hv⟩
            · exact go hw hv
            · exact skip hw hv
          | false =>
            simp only at hv
            rcases brc_cases hv with ⟨rfl, hv⟩ | ⟨rfl, hv⟩
            · exact skip hw hv
            · exact go hw hv
        · rename_i vs hl
          exact skip (unwanted_tup hE hg hd hl) hv
        · exact hv.elim

/-! ### code -/
/-- What is known of the way on. -/
structure Cont (P : Program) (main : Bool) (Stop : Goroutine → Hp → Prop) (N : Nat) (K : Ex → SP) (frb : Frame) (items : List Item) (cs : List Frame) : Prop where
  normal : ∀ a H, After N (K .normal) a H → Run P main Stop (G (frb.at a items) cs) H
  exit : ∀ i a H, After N (K (.exit i)) a H → ∃ k', exitTo i items = some k' ∧ Run P main Stop (G (frb.at a k') cs) H
  ret : ∀ a H todo, After N (K .ret) a H → Run P main Stop (G { frb.at a todo with mode := .returning } cs) H

theorem KeepE_lk {e : Env} : ∀ {e' : Env}, KeepE e e' → ∀ {t v}, lk e' t = some v → lk e t = some v
  | [], _, t, v, hl => by cases hl
  | (d, w) :: e', hk, t, v, hl => by
    simp only [lk] at hl
    cases hd : Nat.beq d t with
    | true =>
      simp only [hd, cond_true] at hl
      cases hl
      have := Nat.eq_of_beq_eq_true hd
      subst this
      exact hk.1
    | false => simp only [hd, cond_false] at hl; exact KeepE_lk hk.2 hl
theorem KeepB_lk {b : Bx} : ∀ {b' : Bx}, KeepB b b' → ∀ {i x}, lkB b' i = some x → lkB b i = some x
  | [], _, i, x, hl => by cases hl
  | (d, T, c) :: b', hk, i, x, hl => by
    simp only [lkB] at hl
    cases hd : Nat.beq d i with
    | true =>
      simp only [hd, cond_true] at hl
      cases hl
      have := Nat.eq_of_beq_eq_true hd
      subst this
      exact hk.1
    | false => simp only [hd, cond_false] at hl; exact KeepB_lk hk.2 hl
theorem bdE_lk {n : Nat} : ∀ {e : Env}, bdE n e = true → ∀ {t v}, lk e t = some v → v.bd n = true
  | [], _, t, v, hl => by cases hl
  | (d, w) :: e, hb, t, v, hl => by
    simp only [bdE, Bool.and_eq_true] at hb
    simp only [lk] at hl
    cases hd : Nat.beq d t with
    | true => simp only [hd, cond_true] at hl; cases hl; exact hb.1
    | false => simp only [hd, cond_false] at hl; exact bdE_lk hb.2 hl
theorem bdB_lk {n : Nat} : ∀ {b : Bx}, bdB n b = true → ∀ {i T c}, lkB b i = some (T, c) → i < n ∧ bdL n c = true
  | [], _, i, T, c, hl => by cases hl
  | (d, T', c') :: b, hb, i, T, c, hl => by
    simp only [bdB, Bool.and_eq_true] at hb
    simp only [lkB] at hl
    cases hd : Nat.beq d i with
    | true =>
      simp only [hd, cond_true] at hl
      cases hl
      have := Nat.eq_of_beq_eq_true hd
      subst this
      exact ⟨by simpa [Nat.blt_eq] using hb.1.1, hb.1.2⟩
    | false => simp only [hd, cond_false] at hl; exact bdB_lk hb.2 hl

/-- Less is known. -/
theorem WkE.after {X : SP} {e : Env} {n : Nat} {b : Bx} {h : Hp} (hw : WkE X e b h) {β : Nat → Nat} {a : Act} {H : Hp} (hE : RelE β n e a) (hB : RelB β n b h H) (ha : Fit N a) : After N X a H := by
  obtain ⟨e', n', b', k1, k2, k3, k4, k5⟩ := hw.out
  refine ⟨β, n', e', b', h, fun t v hl => ?_, ⟨hB.sub, fun i Ty cs hl => ?_, fun i j x y hi hj he => hB.inj i j x y (KeepB_lk k2 hi) (KeepB_lk k2 hj) he⟩, ha, k5⟩
  · obtain ⟨h1, _, h3⟩ := hE t v (KeepE_lk k1 hl)
    exact ⟨h1, bdE_lk k3 hl, h3⟩
  · obtain ⟨_, h2, h3, h4⟩ := hB.box i Ty cs (KeepB_lk k2 hl)
    obtain ⟨q1, q2⟩ := bdB_lk k4 hl
    exact ⟨q1, ⟨q2, h2.2⟩, h3, h4⟩

theorem vc_sound (hT : TabOK P T) (hk : frb.kind ≠ .early) : ∀ (c : Code) {K : Ex → SP} {e : Env} {n : Nat} {b : Bx} {h : Hp}, vc P main T N c e n b h K →
    ∀ {β : Nat → Nat} {a : Act} {H : Hp}, RelE β n e a → RelB β n b h H → Fit N a → ∀ {items : List Item}, Cont P main Stop N K frb items cs → Run P main Stop (G (frb.at a (.code c :: items)) cs) H := by
  intro c
  induction c with
  | skip => intro K e n b h hv β a H hE hB ha items hc; exact Run.skip (hc.normal a H ⟨β, n, e, b, h, hE, hB, ha, hv⟩)
  | label l => intro K e n b h hv β a H hE hB ha items hc; exact Run.label (hc.normal a H ⟨β, n, e, b, h, hE, hB, ha, hv⟩)
  | region id ops draw =>
    intro K e n b h hv β a H hE hB ha items hc
    unfold vc at hv
    cases draw with
    | false =>
      simp only [cond_false] at hv
      refine Run.region ?_
      have := vcOps_sound (Stop := Stop) (cs := cs) (ops := ops) hT hk (k := items) (fun a' H' h' => Run.regionEnd (hc.normal a' H' h')) ops.toList 0 (by simp) hv hE hB ha
      rw [← List.range_eq_range'] at this
      simpa using this
    | true =>
      simp only [cond_true] at hv
      obtain ⟨σ, ms, h1, h2⟩ := hv.out
      obtain ⟨h3, h4⟩ := canon_of hT h1
      refine Run.regionDraw fun l hl => ?_
      obtain ⟨t, rfl⟩ := hl
      simp only [Region.schedule, hT.mixed, Bool.true_or, if_true]
      have hs := vcSeq_sound hT h4 σ h2 hE hB ha (L := []) rfl
      have hnone : ∀ i, (Array.replicate ops.size false).getD i false = false := fun i => by
        simp only [Array.getD_eq_getD_getElem?, Array.getElem?_replicate]
        split <;> rfl
      have hlf : left (Array.replicate ops.size false) (σ.map (toKd T ops)) = σ.map (toKd T ops) := by
        unfold left
        refine List.filter_eq_self.2 fun x hx => ?_
        have hlt : x.1 < ops.size := (h3.all x.1).1 (List.mem_map.2 ⟨x, hx, rfl⟩)
        simp [hlt]
      have hlen : (left (Array.replicate ops.size false) (σ.map (toKd T ops))).length = ops.size := by
        rw [hlf]
        have hp : List.Perm ((σ.map (toKd T ops)).map (·.1)) (List.range ops.size) :=
          (List.perm_ext_iff_of_nodup h3.nodup List.nodup_range).2 fun i => by rw [h3.all, List.mem_range]
        have := hp.length_eq
        simpa using this
      refine seq_run h3 After.up h4 hk (fun a' H' h' => Run.regionEnd (hc.normal a' H' h')) ops.size t _ [] a H (by simp) hlen (fun i hi => by rw [hnone] at hi; cases hi) ?_
      rw [hlf]
      exact hs
  | seq x y ihx ihy =>
    intro K e n b h hv β a H hE hB ha items hc
    unfold vc at hv
    refine Run.seq (ihx hv hE hB ha ⟨?_, ?_, ?_⟩)
    · rintro a' H' ⟨β', n', e', b', h', k1, k2, k3, k4⟩
      exact ihy k4 k1 k2 k3 hc
    · intro i a' H' h'
      obtain ⟨k', h1, h2⟩ := hc.exit i a' H' h'
      exact ⟨k', by simpa [exitTo] using h1, h2⟩
    · exact hc.ret
  | cond c x y ihx ihy =>
    intro K e n b h hv β a H hE hB ha items hc
    unfold vc at hv
    split at hv
    · rename_i t hx
      refine Run.cond (hE.ev hx).1 ?_
      rcases brc_cases hv with ⟨rfl, hv⟩ | ⟨rfl, hv⟩
      · exact ihx hv hE hB ha hc
      · exact ihy hv hE hB ha hc
    · exact hv.elim
  | block id c ih =>
    intro K e n b h hv β a H hE hB ha items hc
    unfold vc at hv
    refine Run.block (ih hv hE hB ha ⟨?_, ?_, ?_⟩)
    · intro a' H' h'
      exact Run.inBlock (hc.normal a' H' h')
    · rintro i a' H' ⟨β', n', e', b', h', k1, k2, k3, k4⟩
      simp only at k4
      cases hi : Nat.beq i id with
      | true =>
        simp only [hi, cond_true] at k4
        have := Nat.eq_of_beq_eq_true hi
        subst this
        exact ⟨items, by simp [exitTo], hc.normal a' H' ⟨β', n', e', b', h', k1, k2, k3, k4⟩⟩
      | false =>
        simp only [hi, cond_false] at k4
        obtain ⟨k', h1, h2⟩ := hc.exit i a' H' ⟨β', n', e', b', h', k1, k2, k3, k4⟩
        have hne : id ≠ i := fun e => Nat.ne_of_beq_eq_false hi e.symm
        exact ⟨k', by simpa [exitTo, hne] using h1, h2⟩
    · exact hc.ret
  | scope c ih =>
    intro K e n b h hv β a H hE hB ha items hc
    unfold vc at hv
    refine Run.scope (ih hv hE hB ha ⟨?_, ?_, ?_⟩)
    · intro a' H' h'
      exact Run.inScope (hc.normal a' H' h')
    · intro i a' H' h'
      obtain ⟨k', h1, h2⟩ := hc.exit i a' H' h'
      exact ⟨k', by simpa [exitTo] using h1, h2⟩
    · exact hc.ret
  | loop c ih =>
    intro K e n b h hv β a H hE hB ha items hc
    unfold vc at hv
    refine Run.loop ?_
    obtain ⟨β', n', e', b', h', k1, k2, k3, k4⟩ := hv.after hE hB ha
    have := k4.out (fun e n b h => ∀ (β : Nat → Nat) (a : Act) (H : Hp), RelE β n e a → RelB β n b h H → Fit N a → Run P main Stop (G (frb.at a (.code c :: .inLoop c :: items)) cs) H) ?_
    · exact this β' a H k1 k2 k3
    · intro e n b h hF β a H hE hB ha
      refine ih hF hE hB ha ⟨?_, ?_, ?_⟩
      · rintro a' H' ⟨β', n', e', b', h', k1, k2, k3, k4⟩
        obtain ⟨β'', n'', e'', b'', h'', q1, q2, q3, q4⟩ := WkE.after (N := N) k4 k1 k2 k3
        exact Run.inLoop (q4 β'' a' H' q1 q2 q3)
      · intro i a' H' h'
        obtain ⟨k', h1, h2⟩ := hc.exit i a' H' h'
        exact ⟨k', by simpa [exitTo] using h1, h2⟩
      · exact hc.ret
  | exit id =>
    intro K e n b h hv β a H hE hB ha items hc
    obtain ⟨k', h1, h2⟩ := hc.exit id a H ⟨β, n, e, b, h, hE, hB, ha, hv⟩
    exact Run.exit h1 h2
  | ret =>
    intro K e n b h hv β a H hE hB ha items hc
    exact Run.ret (hc.ret a H _ ⟨β, n, e, b, h, hE, hB, ha, hv⟩)
  | _ => intro K e n b h hv; exact hv.elim
end
end Go.Proofs.YtfiephhdkloaeaaGreat.Ch
end

section
set_option linter.unusedVariables false
namespace Go.Proofs.YtfiephhdkloaeaaGreat.Ch
open Go Go.Conc

section
variable {P : Program} {main : Bool} {T : Tab} {N n : Nat} {β : Nat → Nat} {e : Env} {b : Bx} {h H : Hp} {a : Act}

def resOf (tmps : Array Value) : ResultVar → Sem Value
  | .tmp t => pure (tmps.getD t undef)
  | .cell a t => do loadVar t (← asAddr (tmps.getD a undef))

theorem vcRes_sound (hT : TabOK P T) (hE : RelE β n e a) (hB : RelB β n b h H) : ∀ (rs : List ResultVar) {Kf : List AV → Prop}, vcRes T e b rs Kf →
    ∃ vs, Kf vs ∧ (bdL n vs = true ∧ wfL vs) ∧ ∀ K, Sub H K → wp P (rs.mapM (resOf a.tmps)) K (fun xs K' => xs = valsL β vs ∧ K' = K) (fun _ _ => False)
  | [], Kf, hv => ⟨[], hv, ⟨rfl, trivial⟩, fun K _ => ⟨rfl, rfl⟩⟩
  | .tmp t :: rs, Kf, hv => by
    unfold vcRes at hv
    split at hv
    · rename_i v hl
      obtain ⟨h1, h2, h3⟩ := hE t v hl
      obtain ⟨vs, k1, k2, k3⟩ := vcRes_sound hT hE hB rs hv
      refine ⟨v :: vs, k1, ⟨by simp only [bdL, h2, k2.1]; rfl, h3, k2.2⟩, fun K hK => ?_⟩
      rw [List.mapM_cons]
      have hg : a.tmps.getD t undef = v.val β := by rw [Array.getD_eq_getD_getElem?, h1]; rfl
      refine wpB (show wp P (pure (a.tmps.getD t undef)) K _ _ from wpP (wpB (wp_mono _ ?_ (fun _ _ h => h) (k3 K hK))))
      rintro xs K' ⟨rfl, rfl⟩
      refine wpP ⟨?_, rfl⟩
      rw [hg]; rfl
    · exact hv.elim
  | .cell t ty :: rs, Kf, hv => by
    unfold vcRes at hv
    split at hv
    · rename_i i ht
      split at hv
      · rename_i id of ad hl
        obtain ⟨h1, h2, h3⟩ := hE t _ hl
        split at hv
        · rename_i Ty cs hb
          obtain ⟨hid, hc, hH, hn⟩ := hB.box _ _ _ hb
          have hg : a.tmps.getD t undef = (AV.bptr id of ad).val β := by rw [Array.getD_eq_getD_getElem?, h1]; rfl
          have hcell : ∀ {K : Hp} {off : Nat} {v : Value}, Sub H K → (cellsL β cs)[off]? = some v → Cell K ⟨β id, off, none⟩ v := by
            intro K off v hK hv
            exact ⟨true, _, Ty, _, hK _ _ hH, rfl, by simpa using hv⟩
          have fin : ∀ (v : AV) (vs : List AV), (∀ K, Sub H K → wp P (loadVar ty ⟨β id, of + ad, none⟩) K (fun x K' => x = v.val β ∧ K' = K) (fun _ _ => False)) →
              (∀ K, Sub H K → wp P (rs.mapM (resOf a.tmps)) K (fun xs K' => xs = valsL β vs ∧ K' = K) (fun _ _ => False)) →
              ∀ K, Sub H K → wp P ((ResultVar.cell t ty :: rs).mapM (resOf a.tmps)) K (fun xs K' => xs = valsL β (v :: vs) ∧ K' = K) (fun _ _ => False) := by
            intro v vs hv hvs K hK
            rw [List.mapM_cons]
            refine wpB (show wp P (do loadVar ty (← asAddr (a.tmps.getD t undef))) K _ _ from ?_)
            rw [hg]
            refine wpB (show wp P (asAddr (.pointer (some ⟨β id, of + ad, none⟩))) K _ _ from wpP (wp_mono _ ?_ (fun _ _ h => h) (hv K hK)))
            rintro x K' ⟨rfl, rfl⟩
            refine wpB (wp_mono _ ?_ (fun _ _ h => h) (hvs K' hK))
            rintro xs K2 ⟨rfl, rfl⟩
            exact wpP ⟨rfl, rfl⟩
          cases hi : i.agg with
          | true =>
            simp only [hi, cond_true] at hv
            obtain ⟨r, e1, e2, e3, e4⟩ := rdMany_sound (β := β) cs of ad i.size _ hc.1 hc.2 hv
            obtain ⟨vs, k1, k2, k3⟩ := vcRes_sound hT hE hB rs e4
            refine ⟨.agg r :: vs, k1, ⟨by simp only [bdL, AV.bd, e3.1, k2.1]; rfl, e3.2, k2.2⟩, fin _ _ (fun K hK => ?_) k3⟩
            refine wp_loadVar hT ht (v := (AV.agg r).val β) (fun _ => ⟨_, rfl, e2, ?_⟩) (fun hf => by rw [hi] at hf; cases hf) ⟨rfl, rfl⟩
            intro j w hj
            rw [add_off]
            refine hcell hK ?_
            rw [e1, List.getElem?_take] at hj
            split at hj
            · rwa [List.getElem?_drop] at hj
            · cases hj
          | false =>
            simp only [hi, cond_false] at hv
            obtain ⟨v, e1, e2, e3⟩ := rdOne_sound (β := β) cs of ad _ hc.1 hc.2 hv
            obtain ⟨vs, k1, k2, k3⟩ := vcRes_sound hT hE hB rs e3
            refine ⟨v :: vs, k1, ⟨by simp only [bdL, e2.1, k2.1]; rfl, e2.2, k2.2⟩, fin _ _ (fun K hK => ?_) k3⟩
            exact wp_loadVar hT ht (v := v.val β) (fun hf => by rw [hi] at hf; cases hf) (fun _ => hcell hK e1) ⟨rfl, rfl⟩
        · exact hv.elim
      · exact hv.elim
    · exact hv.elim

theorem lk_ini : ∀ (args : List AV) (k t : Nat) (v : AV), lk (ini k args) t = some v → k ≤ t ∧ args[t - k]? = some v
  | [], k, t, v, hl => by cases hl
  | w :: args, k, t, v, hl => by
    simp only [ini, lk] at hl
    cases hd : Nat.beq k t with
    | true =>
      simp only [hd, cond_true] at hl
      cases hl
      have := Nat.eq_of_beq_eq_true hd
      subst this
      exact ⟨Nat.le_refl _, by simp⟩
    | false =>
      simp only [hd, cond_false] at hl
      obtain ⟨h1, h2⟩ := lk_ini args (k + 1) t v hl
      refine ⟨by omega, ?_⟩
      rw [show t - k = (t - (k + 1)) + 1 from by omega, List.getElem?_cons_succ]; exact h2

theorem valsL_length (β : Nat → Nat) : ∀ vs : List AV, (valsL β vs).length = vs.length
  | [] => rfl
  | v :: vs => by simp only [valsL, List.length_cons, valsL_length β vs]

theorem vcBody_sound (hT : TabOK P T) {f : FuncId} {fn : Func} (hf : P.funcs[f]? = some fn) {args : List AV} {R : AV → Hp → Prop} (ha : bdL 0 args = true ∧ wfL args) (hn : args.length ≤ fn.ntmps)
    (hv : vcBody P main T fn args h R) : CallsV P main f args h R := by
  intro κ Stop cs hκ hk
  unfold vcBody at hv
  cases hb : fn.body with
  | none => simp only [hb] at hv
  | some c =>
    simp only [hb] at hv
    let frb : Frame := { fn := f, tmps := #[], todo := [], defers := [], mode := .run, kind := κ }
    let a0 : Act := { tmps := (valsL id args).toArray ++ Array.replicate (fn.ntmps - args.length) undef, defers := [] }
    have hen : Frame.enter P f (valsL id args).toArray κ = frb.at a0 [.code c] := by
      simp [Frame.enter, Frame.at, frb, a0, hf, hb, valsL_length]
    rw [hen]
    have hfit : Fit fn.ntmps a0 := ⟨by simp [a0, valsL_length]; omega, rfl⟩
    have hE : RelE id 0 (ini 0 args) a0 := by
      intro t v hl
      obtain ⟨_, h2⟩ := lk_ini args 0 t v hl
      rw [Nat.sub_zero] at h2
      have hm : v ∈ args := List.mem_of_getElem? h2
      refine ⟨?_, bdL_mem ha.1 hm, wfL_mem ha.2 hm⟩
      have hlt : t < (valsL id args).toArray.size := by
        simp [valsL_length]; exact (List.getElem?_eq_some_iff.1 h2).1
      simp only [a0]
      rw [Array.getElem?_append_left hlt]
      simpa using valsL_get h2
    have hB : RelB id 0 [] h h := ⟨fun c x hc => hc, fun i T cs hi => (by cases hi), fun i j x y hi => (by cases hi)⟩
    have fin : ∀ a H todo, After fn.ntmps (fun e n b h => vcRes T e b fn.results.toList (fun vs => revL (idsL vs) e b h vs [] (fun _ _ h vs _ => bif bdL 0 vs then (match vs with
      | [v] => RetE R v h
      | vs => RetE R (.tup vs) h) else False))) a H → Run P main Stop (G { frb.at a todo with mode := .returning } cs) H := by
      rintro a H todo ⟨β, n, e, b, h', k1, k2, k3, k4⟩
      obtain ⟨vs, q1, q2, q3⟩ := vcRes_sound hT k1 k2 fn.results.toList k4
      obtain ⟨e', b', h2, vs', pd', r1, r2, r3, r4, r5, r6, r7, r8⟩ := revL_sound k1 k2 q2 q1
      cases hc : bdL 0 vs' with
      | false => simp only [hc, cond_false] at r8
      | true =>
        simp only [hc, cond_true] at r8
        have hval : valsL β vs = valsL id vs' := by rw [← r4]; exact valsL_of_closed hc _ _
        have leave : ∀ v : Value, (if hh : (valsL β vs).length = 1 then (valsL β vs)[0]'(by omega) else .tuple (valsL β vs).toArray) = v →
            Leaving P { frb.at a todo with mode := .returning } H (.ret v) := by
          intro v hv
          refine ⟨rfl, k3.2, rfl, fn, hf, fun K hK => ?_⟩
          unfold results
          refine wpB (show wp P (fn.results.mapM (resOf a.tmps)) K _ _ from ?_)
          rw [Array.mapM_eq_mapM_toList, ← bind_pure_comp]
          refine wpB (wp_mono _ ?_ (fun _ _ h => h) (q3 K hK))
          rintro xs K' ⟨rfl, rfl⟩
          refine wpP (wpP ⟨?_, rfl⟩)
          rw [← hv]
          simp
        split at r8
        · rename_i v
          have hr := r8.out
          refine hk (.ret (v.val id)) _ H ⟨v, h2, r2.sub, ?_, ?_, rfl, hr⟩ (leave _ ?_) rfl rfl
          · simpa [bdL] using hc
          · exact r3.2.1
          · rw [dif_pos (by rw [hval]; rfl)]
            simp only [hval, valsL]; rfl
        · rename_i hne
          have hr := r8.out
          refine hk (.ret ((AV.tup vs').val id)) _ H ⟨.tup vs', h2, r2.sub, hc, r3.2, rfl, hr⟩ (leave _ ?_) rfl rfl
          rw [dif_neg (fun hl => ?_)]
          · simp only [AV.val, hval]
          · rw [hval, valsL_length] at hl
            match vs', hl with
            | [v], _ => exact hne v rfl
    refine vc_sound hT hκ c hv hE hB hfit ⟨fun a H h' => Run.end (fin a H _ ?_), ?_, fun a H todo h' => fin a H todo h'⟩
    · exact h'
    · rintro i a H ⟨_, _, _, _, _, _, _, _, k⟩; exact k.elim
end
end Go.Proofs.YtfiephhdkloaeaaGreat.Ch
end

section
set_option linter.unusedVariables false
namespace Go.Proofs.YtfiephhdkloaeaaGreat.Ch
open Go Go.Conc

def eqZ : Value → Value → Bool
  | .int .i8 a, .int .i8 b => a == b
  | .int .i16 a, .int .i16 b => a == b
  | .int .i32 a, .int .i32 b => a == b
  | .int .i64 a, .int .i64 b => a == b
  | .int .u8 a, .int .u8 b => a == b
  | .int .u16 a, .int .u16 b => a == b
  | .int .u32 a, .int .u32 b => a == b
  | .int .u64 a, .int .u64 b => a == b
  | .bool a, .bool b => a == b
  | .string a, .string b => a.data.size == 0 && b.data.size == 0
  | .slice none a c, .slice none b d => a == b && c == d
  | .pointer none, .pointer none => true
  | .map none, .map none => true
  | .chan none, .chan none => true
  | .nilFunc, .nilFunc => true
  | .nilIface, .nilIface => true
  | _, _ => false
theorem eqZ_eq {a b : Value} (h : eqZ a b = true) : a = b := by
  unfold eqZ at h
  split at h <;> first
    | cases h; done
    | rfl
    | (have h' : _ = _ := by simpa using h
       subst h'; rfl)
    | (simp only [Bool.and_eq_true, beq_iff_eq] at h
       obtain ⟨rfl, rfl⟩ := h; rfl)
    | skip
  rename_i a b
  simp only [Bool.and_eq_true, beq_iff_eq] at h
  obtain ⟨⟨a⟩⟩ := a
  obtain ⟨⟨b⟩⟩ := b
  obtain ⟨h1, h2⟩ := h
  have e1 : a = [] := List.eq_nil_of_length_eq_zero (by simpa using h1)
  have e2 : b = [] := List.eq_nil_of_length_eq_zero (by simpa using h2)
  rw [e1, e2]

def eqZs : List Value → List Value → Bool
  | [], [] => true
  | a :: as1, b :: bs => eqZ a b && eqZs as1 bs
  | _, _ => false
theorem eqZs_eq : ∀ {a b : List Value}, eqZs a b = true → a = b
  | [], [], _ => rfl
  | a :: as1, b :: bs, h => by
    simp only [eqZs, Bool.and_eq_true] at h
    rw [eqZ_eq h.1, eqZs_eq h.2]
  | [], _ :: _, h => by cases h
  | _ :: _, [], h => by cases h

/-- Runs and plain cells alone. -/
def flatB : List AV → Bool
  | [] => true
  | .run _ n xs :: r => xs.length == n && flatB r
  | .int .. :: r | .bool _ :: r | .str _ :: r | .nilp :: r | .sl .. :: r | .map _ :: r | .chan _ :: r | .nilf :: r | .nili :: r => flatB r
  | _ => false
theorem flatB_ok : ∀ {l : List AV}, flatB l = true → bdL 0 l = true ∧ wfL l
  | [], _ => ⟨rfl, trivial⟩
  | v :: r, h => by
    cases v <;> simp only [flatB, Bool.and_eq_true, beq_iff_eq, Bool.false_eq_true] at h
    case run k n xs => obtain ⟨h1, h2⟩ := h; obtain ⟨h3, h4⟩ := flatB_ok h2; exact ⟨by simp only [bdL, AV.bd, h3]; rfl, h1, h4⟩
    all_goals obtain ⟨h3, h4⟩ := flatB_ok h; exact ⟨by simp only [bdL, AV.bd, h3]; rfl, trivial, h4⟩

def sizeB (P : Program) (t sz : Nat) : Bool := match P.info? t with
  | some i => i.size == sz
  | none => false
theorem sizeB_ok {P : Program} {t sz : Nat} (h : sizeB P t sz = true) : SizeIs P t sz := by
  unfold sizeB at h
  split at h
  · rename_i i hi; exact ⟨i, hi, by simpa using h⟩
  · cases h

def fieldsB (P : Program) : List Field → List (Nat × Nat × Nat) → Bool
  | [], [] => true
  | f :: fs, (off, ft, sz) :: r => f.offset == off && f.type == ft && sizeB P ft sz && fieldsB P fs r
  | _, _ => false
theorem fieldsB_ok {P : Program} : ∀ {fs : List Field} {r : List (Nat × Nat × Nat)}, fieldsB P fs r = true → fs.length = r.length ∧
    ∀ (f off ft sz : Nat), r[f]? = some (off, ft, sz) → ∃ x : Field, fs[f]? = some x ∧ x.offset = off ∧ x.type = ft ∧ SizeIs P ft sz
  | [], [], _ => ⟨rfl, fun f off ft sz h => by simp at h⟩
  | f :: fs, (off, ft, sz) :: r, h => by
    simp only [fieldsB, Bool.and_eq_true, beq_iff_eq] at h
    obtain ⟨⟨⟨h1, h2⟩, h3⟩, h4⟩ := h
    obtain ⟨h5, h6⟩ := fieldsB_ok h4
    refine ⟨by simp [h5], fun i o t s hi => ?_⟩
    cases i with
    | zero => simp only [List.getElem?_cons_zero, Option.some.injEq, Prod.mk.injEq] at hi; obtain ⟨rfl, rfl, rfl⟩ := hi; exact ⟨f, rfl, h1, h2, sizeB_ok h3⟩
    | succ i => simp only [List.getElem?_cons_succ] at hi ⊢; exact h6 i o t s hi
  | [], _ :: _, h => by cases h
  | _ :: _, [], h => by cases h

def intKB : IntKind → IntKind → Bool
  | .i8, .i8 | .i16, .i16 | .i32, .i32 | .i64, .i64 | .u8, .u8 | .u16, .u16 | .u32, .u32 | .u64, .u64 => true
  | _, _ => false
theorem intKB_eq {a b : IntKind} (h : intKB a b = true) : a = b := by
  cases a <;> cases b <;> first | rfl | cases h

def descB (P : Program) (d : TypeDesc) (td : TD) : Bool :=
  match td with
  | .int k => match d with
    | .int k' => intKB k' k
    | _ => false
  | .bool => match d with
    | .bool => true
    | _ => false
  | .str => match d with
    | .string => true
    | _ => false
  | .slice e sz => match d with
    | .slice e' => e' == e && sizeB P e sz
    | _ => false
  | .array n e sz => match d with
    | .array n' e' => n' == n && e' == e && sizeB P e sz
    | _ => false
  | .struct fs => match d with
    | .struct F => fieldsB P F.toList fs
    | _ => false
  | .ptr => match d with
    | .pointer _ => true
    | _ => false
  | .iface => match d with
    | .interface _ => true
    | _ => false
  | .other => true
theorem descB_ok {P : Program} {d : TypeDesc} {td : TD} (h : descB P d td = true) : DescOK P d td := by
  cases td <;> simp only [descB] at h
  case int k => split at h; · rw [intKB_eq h]; rfl
                · cases h
  case bool => split at h; · rfl
               · cases h
  case str => split at h; · rfl
              · cases h
  case slice e sz =>
    split at h
    · simp only [Bool.and_eq_true, beq_iff_eq] at h
      obtain ⟨rfl, h⟩ := h
      exact ⟨rfl, sizeB_ok h⟩
    · cases h
  case array n e sz =>
    split at h
    · simp only [Bool.and_eq_true, beq_iff_eq] at h
      obtain ⟨⟨rfl, rfl⟩, h⟩ := h
      exact ⟨rfl, sizeB_ok h⟩
    · cases h
  case struct fs =>
    split at h
    · rename_i F
      obtain ⟨h1, h2⟩ := fieldsB_ok h
      exact ⟨F, rfl, by simpa using h1, fun f off ft sz hf => by simpa using h2 f off ft sz hf⟩
    · cases h
  case ptr => split at h; · exact ⟨_, rfl⟩
              · cases h
  case iface => split at h; · exact ⟨_, rfl⟩
                · cases h
  case other => trivial

def tiB (P : Program) (t : Nat) (i : TI) : Bool :=
  sizeB P t i.size && flatB i.zero && (match P.info? t with
    | some inf => match inf.zero with
      | some z => eqZs z.cells.toList (cellsL id i.zero)
      | none => false
    | none => false) && (match P.underlying t with
    | some d => (aggD d == i.agg) && descB P d i.d
    | none => false)
theorem tiB_ok {P : Program} {t : Nat} {i : TI} (h : tiB P t i = true) : TIok P t i := by
  unfold tiB at h
  simp only [Bool.and_eq_true] at h
  obtain ⟨⟨⟨h1, h2⟩, h3⟩, h4⟩ := h
  obtain ⟨h5, h6⟩ := flatB_ok h2
  refine ⟨sizeB_ok h1, ?_, ?_⟩
  · split at h3
    · rename_i inf hi
      split at h3
      · rename_i z hz
        exact ⟨inf, z, hi, hz, by rw [← eqZs_eq h3], h5, h6⟩
      · cases h3
    · cases h3
  · split at h4
    · rename_i d hd
      simp only [Bool.and_eq_true, beq_iff_eq] at h4
      exact ⟨d, hd, h4.1, descB_ok h4.2⟩
    · cases h4

def bytesB (P : Program) (t sz : Nat) : Bool := match P.info? t with
  | some inf => Nat.ble inf.bytes (32 * sz + 32) && (match inf.zero with
    | some z => z.cells.size == sz
    | none => false)
  | none => false
theorem bytesB_ok {P : Program} {t sz : Nat} (h : bytesB P t sz = true) : BytesOK P t sz := by
  unfold bytesB at h
  split at h
  · rename_i inf hi
    simp only [Bool.and_eq_true] at h
    obtain ⟨h1, h2⟩ := h
    split at h2
    · rename_i z hz
      exact ⟨inf, hi, Nat.le_of_ble_eq_true h1, z, hz, by simpa using h2⟩
    · cases h2
  · cases h

def goB (P : Program) (g : Nat) : Bool := match P.funcs[g]? with
  | some fn => !(fn.name == "runtime.NumGoroutine") && !fn.body.isNone
  | none => false
def mkTab (ty : Nat → Option TI) (n : Nat) (go : Nat → Bool) (m : Nat) : Tab := ⟨fun t => bif Nat.blt t n then ty t else none, fun g => bif Nat.blt g m then go g else false⟩
theorem mkTab_ok {P : Program} {ty : Nat → Option TI} {n : Nat} {go : Nat → Bool} {m : Nat} (hm : P.follows .mixedOrders = true)
    (h1 : ((List.range n).all fun t => match ty t with
      | some i => tiB P t i && bytesB P t i.size
      | none => true) = true) (h2 : ((List.range m).all fun g => !go g || goB P g) = true) : TabOK P (mkTab ty n go m) := by
  have key : ∀ t i, (mkTab ty n go m).ty t = some i → tiB P t i = true ∧ bytesB P t i.size = true := by
    intro t i ht
    simp only [mkTab] at ht
    cases hb : Nat.blt t n with
    | false => simp only [hb, cond_false] at ht; cases ht
    | true =>
      simp only [hb, cond_true] at ht
      have := List.all_eq_true.1 h1 t (List.mem_range.2 (by simpa [Nat.blt_eq] using hb))
      rw [ht] at this
      simpa using this
  refine ⟨hm, fun t i ht => tiB_ok (key t i ht).1, fun t i ht => bytesB_ok (key t i ht).2, fun g hg => ?_⟩
  · simp only [mkTab] at hg
    cases hb : Nat.blt g m with
    | false => simp only [hb, cond_false] at hg; cases hg
    | true =>
      simp only [hb, cond_true] at hg
      have := List.all_eq_true.1 h2 g (List.mem_range.2 (by simpa [Nat.blt_eq] using hb))
      rw [hg] at this
      unfold goB at this
      split at this
      · rename_i fn hf
        simp only [Bool.not_true, Bool.false_or, Bool.and_eq_true, Bool.not_eq_true'] at this
        exact ⟨fn, hf, this.1, this.2⟩
      · cases this
end Go.Proofs.YtfiephhdkloaeaaGreat.Ch
end
