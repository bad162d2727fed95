/- Heap fragments, the weakest precondition of an operation over a fragment, and its soundness in every world that holds the fragment. -/
import Derived.Conc.Own
import Derived.Orders
section
set_option linter.unusedVariables false
namespace Go.Proofs.YtfiephhdkloaeaaGreat.Ch
open Go Go.Conc

/-- A fragment of the heap: of a block whether it may be written, and what it holds. -/
abbrev Hp := Nat → Option (Bool × Obj)

def Hp.set (h : Hp) (b : Nat) (x : Bool × Obj) : Hp := fun c => if c = b then some x else h c

theorem Hp.set_same (h : Hp) (b : Nat) (x : Bool × Obj) : h.set b x b = some x := by simp [Hp.set]
theorem Hp.set_ne (h : Hp) {b c : Nat} (x : Bool × Obj) (hn : c ≠ b) : h.set b x c = h c := by simp [Hp.set, hn]

def Sees (W : World) (h : Hp) : Prop := ∀ b p o, h b = some (p, o) → W.heap[b]? = some o

/-- Marks that order nothing and touch nothing. -/
def neutral : Mark → Bool
  | .extern _ | .noRoom => true
  | _ => false

/-- What is known of memory behind a step: what was not owned stands, what is new is owned. -/
structure Did (h h' : Hp) (W W' : World) : Prop where
  os : W'.os = W.os
  output : W'.output = W.output
  tape : W'.tape = W.tape
  size : W.heap.size ≤ W'.heap.size
  keep : ∀ b, b < W.heap.size → (∀ o, h b ≠ some (true, o)) → W'.heap[b]? = W.heap[b]?
  grow : ∀ b p o, h' b = some (p, o) → (∃ o', h b = some (p, o')) ∨ (h b = none ∧ W.heap.size ≤ b ∧ p = true)
  hold : ∀ b p o, h b = some (p, o) → ∃ o', h' b = some (p, o')
  sees : Sees W' h'

theorem Sees.lt {W : World} {h : Hp} (hs : Sees W h) {b : Nat} {p : Bool} {o : Obj} (hb : h b = some (p, o)) : b < W.heap.size := by
  have := hs b p o hb
  exact (Array.getElem?_eq_some_iff.1 this).1

theorem Did.refl {h : Hp} {W : World} (hs : Sees W h) : Did h h W W :=
  ⟨rfl, rfl, rfl, Nat.le_refl _, fun _ _ _ => rfl, fun _ p o hb => .inl ⟨o, hb⟩, fun _ _ o hb => ⟨o, hb⟩, hs⟩

theorem Did.trans {h h1 h2 : Hp} {W W1 W2 : World} (a : Did h h1 W W1) (b : Did h1 h2 W1 W2) : Did h h2 W W2 where
  os := b.os.trans a.os
  output := b.output.trans a.output
  tape := b.tape.trans a.tape
  size := Nat.le_trans a.size b.size
  keep := fun c hc hn => by
    rw [b.keep c (Nat.lt_of_lt_of_le hc a.size) ?_, a.keep c hc hn]
    intro o ho
    rcases a.grow c true o ho with ⟨o', h'⟩ | ⟨_, h', _⟩
    · exact hn o' h'
    · omega
  grow := fun c p o hc => by
    rcases b.grow c p o hc with ⟨o', h'⟩ | ⟨hn, hl, hp⟩
    · exact a.grow c p o' h'
    · refine .inr ⟨?_, Nat.le_trans a.size hl, hp⟩
      cases hh : h c with
      | none => rfl
      | some x =>
        obtain ⟨q, o'⟩ := x
        obtain ⟨o2, h2⟩ := a.hold c q o' hh
        rw [hn] at h2; cases h2
  hold := fun c p o hc => by
    obtain ⟨o1, h1⟩ := a.hold c p o hc
    exact b.hold c p o1 h1
  sees := b.sees

/-- An access that the fragment lets by. -/
def EvOK (h : Hp) (e : Event) : Prop :=
  match e.loc with
  | .cell a => ∃ p o, h a.block = some (p, o) ∧ (e.write = true ∨ e.sync = true → p = true)
  | .obj r => ∃ p o, h r = some (p, o) ∧ (e.write = true → p = true) ∧ e.sync = false
  | .mark m => neutral m = true
  | _ => False

def EvsOK (h : Hp) (es : Array Event) : Prop := ∀ e ∈ es, EvOK h e

theorem EvOK.did {h h' : Hp} {W W' : World} (d : Did h h' W W') {e : Event} (he : EvOK h e) : EvOK h' e := by
  unfold EvOK at *
  split at he <;> rename_i hl
  · obtain ⟨p, o, h1, h2⟩ := he
    obtain ⟨o', h3⟩ := d.hold _ _ _ h1
    exact ⟨p, o', h3, h2⟩
  · obtain ⟨p, o, h1, h2, h4⟩ := he
    obtain ⟨o', h3⟩ := d.hold _ _ _ h1
    exact ⟨p, o', h3, h2, h4⟩
  · exact he
  · exact he

theorem EvsOK.append {h : Hp} {a b : Array Event} (ha : EvsOK h a) (hb : EvsOK h b) : EvsOK h (a ++ b) := by
  intro e he
  rcases Array.mem_append.1 he with h1 | h1
  · exact ha e h1
  · exact hb e h1
theorem EvsOK.empty (h : Hp) : EvsOK h #[] := fun e he => by simp at he
theorem EvsOK.one {h : Hp} {e : Event} (he : EvOK h e) : EvsOK h #[e] := fun e' h' => by
  have : e' = e := by simpa using h'
  rw [this]; exact he
theorem EvsOK.did {h h' : Hp} {W W' : World} (d : Did h h' W W') {es : Array Event} (he : EvsOK h es) : EvsOK h' es := fun e h1 => (he e h1).did d

/-- A cell of the fragment. -/
def Cell (h : Hp) (a : Addr) (v : Value) : Prop := ∃ p c e f, h a.block = some (p, .cells c e f) ∧ a.spot = none ∧ c[a.off]? = some v

def scalar : Value → Bool
  | .agg _ | .tuple _ => false
  | _ => true

/-- The weakest precondition. -/
def wp {α : Type} (P : Program) (s : Sem α) (h : Hp) (Q : α → Hp → Prop) (E : Halt → Hp → Prop) : Prop :=
  match s with
  | .pure a => Q a h
  | .load m a k => ∃ v p c e f, h a.block = some (p, .cells c e f) ∧ a.spot = none ∧ c[a.off]? = some v ∧ (m = .atomic → p = true) ∧ wp P (k v) h Q E
  | .store _ a v k => scalar v = true ∧ ∃ c e lo hi, h a.block = some (true, .cells c e (lo, hi)) ∧ a.spot = none ∧ a.off < c.size ∧ ¬ (lo ≤ a.off ∧ a.off < hi) ∧
      wp P k (h.set a.block (true, .cells (c.setIfInBounds a.off v) e (lo, hi))) Q E
  | .new o k => ∀ r, h r = none → wp P (k r) (h.set r (true, o)) Q E
  | .shape r k => ∃ p o, h r = some (p, o) ∧ wp P (k (match o with | .cells c e _ => some (e, c.size) | _ => none)) h Q E
  | .freeze a n k => ∃ c e lo hi, h a.block = some (true, .cells c e (lo, hi)) ∧ n ≠ 0 ∧
      wp P k (h.set a.block (true, .cells c e (if lo == hi then (a.off, a.off + n) else (min lo a.off, max hi (a.off + n))))) Q E
  | .frozen a k => ∃ p c e lo hi, h a.block = some (p, .cells c e (lo, hi)) ∧ wp P (k (decide (lo ≤ a.off) && decide (a.off < hi))) h Q E
  | .getObj r k => ∃ p o, h r = some (p, o) ∧ (match o with | .cells .. | .chan .. => False | _ => True) ∧ wp P (k o) h Q E
  | .setObj r o k => ∃ o', h r = some (true, o') ∧ (match o' with | .cells .. => False | _ => True) ∧ o.isChan = false ∧ wp P k (h.set r (true, o)) Q E
  | .choose q k => (q.forced = true → wp P (k 0) h Q E) ∧ (q.forced = false → ∀ n, wp P (k (q.cut n)) h Q E)
  | .sys _ _ => False
  | .program k => wp P (k P) h Q E
  | .mark m k => neutral m = true ∧ wp P k h Q E
  | .halt e => E e h

theorem modify_set {a : Array Obj} {b : Nat} {o : Obj} (h : a[b]? = some o) (f : Obj → Obj) : a.modify b f = a.setIfInBounds b (f o) := by
  apply Array.ext
  · simp
  · intro i h1 h2
    simp only [Array.getElem_modify]
    by_cases e : b = i
    · subst e
      have hz := (Array.getElem?_eq_some_iff.1 h).2
      simp [hz]
    · rw [if_neg e, Array.getElem_setIfInBounds, if_neg e]

section
variable {α : Type} {P : Program}

theorem set_sees {W : World} {h : Hp} (hs : Sees W h) {b : Nat} {o : Obj} {p : Bool} (hb : b < W.heap.size) : Sees { W with heap := W.heap.setIfInBounds b o } (h.set b (p, o)) := by
  intro c q o' hc
  unfold Hp.set at hc
  split at hc
  · rename_i e; subst e; cases hc; simp [hb]
  · rename_i e
    have := hs c q o' hc
    simp only [Array.getElem?_setIfInBounds]
    rw [if_neg (fun h' => e h'.symm)]; exact this

theorem did_set {W : World} {h : Hp} (hs : Sees W h) {b : Nat} {o o' : Obj} (hb : h b = some (true, o)) :
    Did h (h.set b (true, o')) W { W with heap := W.heap.setIfInBounds b o' } where
  os := rfl
  output := rfl
  tape := rfl
  size := by simp
  keep := fun c _ hn => by
    have : c ≠ b := fun e => hn o (e ▸ hb)
    simp only [Array.getElem?_setIfInBounds]
    rw [if_neg (fun h' => this h'.symm)]
  grow := fun c p o1 hc => by
    unfold Hp.set at hc
    split at hc
    · rename_i e; subst e; cases hc; exact .inl ⟨o, hb⟩
    · exact .inl ⟨o1, hc⟩
  hold := fun c p o1 hc => by
    by_cases e : c = b
    · subst e; rw [hb] at hc; cases hc; exact ⟨o', by simp [Hp.set]⟩
    · exact ⟨o1, by simp [Hp.set, e, hc]⟩
  sees := set_sees hs (hs.lt hb)

theorem did_new {W : World} {h : Hp} (hs : Sees W h) (o : Obj) : Did h (h.set W.heap.size (true, o)) W { W with heap := W.heap.push o } where
  os := rfl
  output := rfl
  tape := rfl
  size := by simp
  keep := fun c hc _ => by simp [Array.getElem?_push, Nat.ne_of_lt hc]
  grow := fun c p o1 hc => by
    unfold Hp.set at hc
    split at hc
    · rename_i e; subst e; cases hc
      refine .inr ⟨?_, Nat.le_refl _, rfl⟩
      cases hh : h W.heap.size with
      | none => rfl
      | some x => exact absurd (hs.lt (show h W.heap.size = some (x.1, x.2) from hh)) (Nat.lt_irrefl _)
    · exact .inl ⟨o1, hc⟩
  hold := fun c p o1 hc => by
    have : c ≠ W.heap.size := Nat.ne_of_lt (hs.lt hc)
    exact ⟨o1, by simp [Hp.set, this, hc]⟩
  sees := fun c p o1 hc => by
    unfold Hp.set at hc
    split at hc
    · rename_i e; subst e; cases hc; simp
    · have := hs.lt hc
      have h2 := hs c p o1 hc
      simp [Array.getElem?_push, Nat.ne_of_lt this, h2]

theorem fresh_of_sees {W : World} {h : Hp} (hs : Sees W h) : h W.heap.size = none := by
  cases hh : h W.heap.size with
  | none => rfl
  | some x => exact absurd (hs.lt (show h W.heap.size = some (x.1, x.2) from hh)) (Nat.lt_irrefl _)

/-- What a run of the operation comes to, in every world that holds the fragment. -/
def Comes' (P : Program) (s : Sem α) (h : Hp) (Q : α → Hp → Prop) (E : Halt → Hp → Prop) (W : World) : Prop :=
  ∃ (r : Result α) (W' : World) (es : Array Event) (h' : Hp), (∀ es0, s.runT P W es0 = (r, es0 ++ es)) ∧ Did h h' W W' ∧ EvsOK h' es ∧
    match r with
    | .ok a w => w = W' ∧ Q a h'
    | .halt e w => w = W' ∧ E e h'

theorem Comes'.step {s s' : Sem α} {h h1 : Hp} {Q : α → Hp → Prop} {E : Halt → Hp → Prop} {W W1 : World} {es1 : Array Event}
    (hd : Did h h1 W W1) (he : EvsOK h1 es1) (hr : ∀ es0, s.runT P W es0 = s'.runT P W1 (es0 ++ es1)) (h' : Comes' P s' h1 Q E W1) : Comes' P s h Q E W := by
  obtain ⟨r, W', es, h2, hrun, hd', he', hq⟩ := h'
  exact ⟨r, W', es1 ++ es, h2, fun es0 => by rw [hr, hrun, Array.append_assoc], hd.trans hd', (he.did hd').append he', hq⟩

theorem wp_sound (s : Sem α) : ∀ {h : Hp} {Q : α → Hp → Prop} {E : Halt → Hp → Prop} {W : World}, wp P s h Q E → Sees W h → Comes' P s h Q E W := by
  induction s with
  | pure a => intro h Q E W hw hs; exact ⟨.ok a W, W, #[], h, fun es0 => by simp only [Sem.runT, Array.append_empty], Did.refl hs, EvsOK.empty _, rfl, hw⟩
  | load m a k ih =>
    intro h Q E W hw hs
    obtain ⟨v, p, c, e, f, hb, hsp, hv, hm, hk⟩ := hw
    have hc : W.cell? a = some v := by
      simp only [World.cell?, hs _ _ _ hb, hsp]; simpa using hv
    refine Comes'.step (Did.refl hs) (es1 := #[⟨.cell a, false, m == .atomic⟩]) (EvsOK.one ⟨p, _, hb, ?_⟩) (fun es0 => ?_) (ih v hk hs)
    · rintro (h1 | h1)
      · cases h1
      · exact hm (by simpa using h1)
    · simp only [Sem.runT, hc, Array.append_singleton]
  | store m a v k ih =>
    intro h Q E W hw hs
    obtain ⟨hsc, c, e, lo, hi, hb, hsp, hlt, hf, hk⟩ := hw
    have hh := hs _ _ _ hb
    have hc : ∃ x, W.cell? a = some x := by
      refine ⟨c[a.off], ?_⟩
      simp only [World.cell?, hh, hsp]; simp [hlt]
    obtain ⟨x, hc⟩ := hc
    have hfz : W.frozen? a = false := by
      simp only [World.frozen?, hh]
      simpa using hf
    have hset : W.setCell a v = { W with heap := W.heap.setIfInBounds a.block (.cells (c.setIfInBounds a.off v) e (lo, hi)) } := by
      simp only [World.setCell, hsp]
      rw [modify_set hh]
      simp
    refine Comes'.step (did_set hs hb) (es1 := #[⟨.cell a, true, m == .atomic⟩]) (EvsOK.one ⟨true, _, Hp.set_same _ _ _, fun _ => rfl⟩) (fun es0 => ?_)
      (ih hk (set_sees hs (hs.lt hb)))
    cases v <;> simp [scalar] at hsc <;> simp only [Sem.runT, hc, hfz, hset, Array.append_singleton, Bool.false_eq_true, if_false]
  | new o k ih =>
    intro h Q E W hw hs
    refine Comes'.step (did_new hs o) (es1 := #[]) (EvsOK.empty _) (fun es0 => ?_) (ih W.heap.size (hw _ (fresh_of_sees hs)) (did_new hs o).sees)
    simp only [Sem.runT, Array.append_empty]
  | shape r k ih =>
    intro h Q E W hw hs
    obtain ⟨p, o, hb, hk⟩ := hw
    refine Comes'.step (Did.refl hs) (es1 := #[]) (EvsOK.empty _) (fun es0 => ?_) (ih _ hk hs)
    simp only [Sem.runT, World.shape?, hs _ _ _ hb, Array.append_empty]
    cases o <;> rfl
  | freeze a n k ih =>
    intro h Q E W hw hs
    obtain ⟨c, e, lo, hi, hb, hn, hk⟩ := hw
    have hh := hs _ _ _ hb
    have hset : W.freeze a n = { W with heap := W.heap.setIfInBounds a.block (.cells c e (if lo == hi then (a.off, a.off + n) else (min lo a.off, max hi (a.off + n)))) } := by
      simp only [World.freeze, hn, if_false]
      rw [modify_set hh]
    refine Comes'.step (did_set hs hb) (es1 := #[]) (EvsOK.empty _) (fun es0 => ?_) (ih hk (set_sees hs (hs.lt hb)))
    simp only [Sem.runT, hset, Array.append_empty]
  | frozen a k ih =>
    intro h Q E W hw hs
    obtain ⟨p, c, e, lo, hi, hb, hk⟩ := hw
    refine Comes'.step (Did.refl hs) (es1 := #[]) (EvsOK.empty _) (fun es0 => ?_) (ih _ hk hs)
    simp only [Sem.runT, World.frozen?, hs _ _ _ hb, Array.append_empty]
  | getObj r k ih =>
    intro h Q E W hw hs
    obtain ⟨p, o, hb, ho, hk⟩ := hw
    have hh := hs _ _ _ hb
    refine Comes'.step (Did.refl hs) (es1 := #[⟨.obj r, false, o.isChan⟩]) (EvsOK.one ⟨p, o, hb, by simp, ?_⟩) (fun es0 => ?_) (ih _ hk hs)
    · cases o <;> simp [Obj.isChan] at ho ⊢
    · cases o <;> simp at ho <;> simp only [Sem.runT, hh, Array.append_singleton]
  | setObj r o k ih =>
    intro h Q E W hw hs
    obtain ⟨o', hb, ho, hi, hk⟩ := hw
    have hh := hs _ _ _ hb
    refine Comes'.step (did_set hs hb) (es1 := #[⟨.obj r, true, o.isChan⟩]) (EvsOK.one ⟨true, o, Hp.set_same _ _ _, fun _ => rfl, hi⟩) (fun es0 => ?_) (ih hk (set_sees hs (hs.lt hb)))
    cases o' <;> simp at ho <;> simp only [Sem.runT, hh, Array.append_singleton]
  | choose q k ih =>
    intro h Q E W hw hs
    by_cases hq : q.forced = true
    · refine Comes'.step (Did.refl hs) (es1 := #[]) (EvsOK.empty _) (fun es0 => ?_) (ih _ (hw.1 hq) hs)
      simp only [Sem.runT, hq, if_true, Array.append_empty]
    · have hq' : q.forced = false := by simpa using hq
      have hd : Did h h W { W with drawn := W.drawn + 1 } := ⟨rfl, rfl, rfl, Nat.le_refl _, fun _ _ _ => rfl, fun _ p o hb => .inl ⟨o, hb⟩, fun _ _ o hb => ⟨o, hb⟩, hs⟩
      refine Comes'.step hd (es1 := #[]) (EvsOK.empty _) (fun es0 => ?_) (ih _ (hw.2 hq' (W.tape W.drawn q)) hd.sees)
      simp only [Sem.runT, hq', Bool.false_eq_true, if_false, Array.append_empty]
  | sys c k ih => intro h Q E W hw; exact hw.elim
  | program k ih =>
    intro h Q E W hw hs
    exact Comes'.step (Did.refl hs) (es1 := #[]) (EvsOK.empty _) (fun es0 => by simp only [Sem.runT, Array.append_empty]) (ih P hw hs)
  | mark m k ih =>
    intro h Q E W hw hs
    exact Comes'.step (Did.refl hs) (es1 := #[⟨.mark m, false, true⟩]) (EvsOK.one hw.1) (fun es0 => by simp only [Sem.runT, Array.append_singleton]) (ih hw.2 hs)
  | halt e => intro h Q E W hw hs; exact ⟨.halt e W, W, #[], h, fun es0 => by simp only [Sem.runT, Array.append_empty], Did.refl hs, EvsOK.empty _, rfl, hw⟩

theorem wp_mono (s : Sem α) : ∀ {h : Hp} {Q Q' : α → Hp → Prop} {E E' : Halt → Hp → Prop}, (∀ a h, Q a h → Q' a h) → (∀ e h, E e h → E' e h) → wp P s h Q E → wp P s h Q' E' := by
  induction s with
  | pure a => intro h Q Q' E E' hq he hw; exact hq _ _ hw
  | load m a k ih => intro h Q Q' E E' hq he hw; obtain ⟨v, p, c, e, f, h1, h2, h3, h4, h5⟩ := hw; exact ⟨v, p, c, e, f, h1, h2, h3, h4, ih _ hq he h5⟩
  | store m a v k ih => intro h Q Q' E E' hq he hw; obtain ⟨h0, c, e, lo, hi, h1, h2, h3, h4, h5⟩ := hw; exact ⟨h0, c, e, lo, hi, h1, h2, h3, h4, ih hq he h5⟩
  | new o k ih => intro h Q Q' E E' hq he hw; exact fun r hr => ih r hq he (hw r hr)
  | shape r k ih => intro h Q Q' E E' hq he hw; obtain ⟨p, o, h1, h2⟩ := hw; exact ⟨p, o, h1, ih _ hq he h2⟩
  | freeze a n k ih => intro h Q Q' E E' hq he hw; obtain ⟨c, e, lo, hi, h1, h2, h3⟩ := hw; exact ⟨c, e, lo, hi, h1, h2, ih hq he h3⟩
  | frozen a k ih => intro h Q Q' E E' hq he hw; obtain ⟨p, c, e, lo, hi, h1, h2⟩ := hw; exact ⟨p, c, e, lo, hi, h1, ih _ hq he h2⟩
  | getObj r k ih => intro h Q Q' E E' hq he hw; obtain ⟨p, o, h1, h2, h3⟩ := hw; exact ⟨p, o, h1, h2, ih _ hq he h3⟩
  | setObj r o k ih => intro h Q Q' E E' hq he hw; obtain ⟨o', h1, h2, h3, h4⟩ := hw; exact ⟨o', h1, h2, h3, ih hq he h4⟩
  | choose q k ih => intro h Q Q' E E' hq he hw; exact ⟨fun hf => ih _ hq he (hw.1 hf), fun hf n => ih _ hq he (hw.2 hf n)⟩
  | sys c k ih => intro h Q Q' E E' hq he hw; exact hw
  | program k ih => intro h Q Q' E E' hq he hw; exact ih _ hq he hw
  | mark m k ih => intro h Q Q' E E' hq he hw; exact ⟨hw.1, ih hq he hw.2⟩
  | halt e => intro h Q Q' E E' hq he hw; exact he _ _ hw

theorem wp_bind {β : Type} (s : Sem α) (f : α → Sem β) : ∀ {h : Hp} {Q : β → Hp → Prop} {E : Halt → Hp → Prop},
    wp P s h (fun a h' => wp P (f a) h' Q E) E → wp P (s.bind f) h Q E := by
  induction s with
  | pure a => intro h Q E hw; exact hw
  | load m a k ih => intro h Q E hw; obtain ⟨v, p, c, e, g, h1, h2, h3, h4, h5⟩ := hw; exact ⟨v, p, c, e, g, h1, h2, h3, h4, ih _ h5⟩
  | store m a v k ih => intro h Q E hw; obtain ⟨h0, c, e, lo, hi, h1, h2, h3, h4, h5⟩ := hw; exact ⟨h0, c, e, lo, hi, h1, h2, h3, h4, ih h5⟩
  | new o k ih => intro h Q E hw; exact fun r hr => ih r (hw r hr)
  | shape r k ih => intro h Q E hw; obtain ⟨p, o, h1, h2⟩ := hw; exact ⟨p, o, h1, ih _ h2⟩
  | freeze a n k ih => intro h Q E hw; obtain ⟨c, e, lo, hi, h1, h2, h3⟩ := hw; exact ⟨c, e, lo, hi, h1, h2, ih h3⟩
  | frozen a k ih => intro h Q E hw; obtain ⟨p, c, e, lo, hi, h1, h2⟩ := hw; exact ⟨p, c, e, lo, hi, h1, ih _ h2⟩
  | getObj r k ih => intro h Q E hw; obtain ⟨p, o, h1, h2, h3⟩ := hw; exact ⟨p, o, h1, h2, ih _ h3⟩
  | setObj r o k ih => intro h Q E hw; obtain ⟨o', h1, h2, h3, h4⟩ := hw; exact ⟨o', h1, h2, h3, ih h4⟩
  | choose q k ih => intro h Q E hw; exact ⟨fun hf => ih _ (hw.1 hf), fun hf n => ih _ (hw.2 hf n)⟩
  | sys c k ih => intro h Q E hw; exact hw
  | program k ih => intro h Q E hw; exact ih _ hw
  | mark m k ih => intro h Q E hw; exact ⟨hw.1, ih hw.2⟩
  | halt e => intro h Q E hw; exact hw
end
end Go.Proofs.YtfiephhdkloaeaaGreat.Ch
end

section
set_option linter.unusedVariables false
namespace Go.Proofs.YtfiephhdkloaeaaGreat.Ch
open Go Go.Conc

def Moves (P : Program) (main : Bool) (g : Goroutine) (h : Hp) (K : Goroutine → Hp → Prop) (W : World) : Prop :=
  ∃ g' W' es h', stepG P main g W = .go g' W' es ∧ Did h h' W W' ∧ EvsOK h' es ∧ K g' h'

/-- 'g' goes by own steps, each within its fragment whatever the rest of memory is, to a stop. -/
inductive Run (P : Program) (main : Bool) (Stop : Goroutine → Hp → Prop) : Goroutine → Hp → Prop
  | stop {g : Goroutine} {h : Hp} : Stop g h → Run P main Stop g h
  | step {g : Goroutine} {h : Hp} (K : Goroutine → Hp → Prop) : g.status = .running → (∀ W, Sees W h → Moves P main g h K W) →
      (∀ g' h', K g' h' → Run P main Stop g' h') → Run P main Stop g h

section
variable {P : Program} {main : Bool} {Stop : Goroutine → Hp → Prop}

theorem Run.ctl {g g' : Goroutine} {h : Hp} (hs : g.status = .running) (he : ∀ W, stepG P main g W = .go g' W #[]) (h' : Run P main Stop g' h) : Run P main Stop g h :=
  Run.step (fun g1 h1 => g1 = g' ∧ h1 = h) hs (fun W hW => ⟨g', W, #[], h, he W, Did.refl hW, EvsOK.empty _, rfl, rfl⟩) (by rintro g1 h1 ⟨rfl, rfl⟩; exact h')

theorem Run.bind {S : Goroutine → Hp → Prop} {g : Goroutine} {h : Hp} (hr : Run P main S g h) (hk : ∀ g h, S g h → Run P main Stop g h) : Run P main Stop g h := by
  induction hr with
  | stop hs => exact hk _ _ hs
  | step K hs hm _ ih => exact Run.step K hs hm ih

theorem seen_mem (P : Program) (fn : FuncId) (es : Array Event) : ∀ e ∈ seen P fn es, e ∈ es := by
  unfold seen
  have key : ∀ (l : List Event) (q : Bool) (kept : Array Event) (S : Event → Prop), (∀ e ∈ kept, S e) → (∀ e ∈ l, S e) →
      ∀ e ∈ (l.foldl (fun (x : Bool × Array Event) e => match e.loc with
        | .mark (.extern f) => ((P.funcs[f]?).any (·.norace), x.2)
        | _ => (x.1, if x.1 && !e.sync then x.2 else x.2.push e)) (q, kept)).2, S e := by
    intro l
    induction l with
    | nil => intro q kept S hk _ e he; exact hk e he
    | cons a l ih =>
      intro q kept S hk hl e he
      simp only [List.foldl_cons] at he
      split at he
      · exact ih _ _ S hk (fun e h => hl e (List.mem_cons_of_mem _ h)) e he
      · refine ih _ _ S ?_ (fun e h => hl e (List.mem_cons_of_mem _ h)) e he
        split
        · exact hk
        · intro e' he'
          rcases Array.mem_push.1 he' with h1 | h1
          · exact hk e' h1
          · rw [h1]; exact hl a (List.mem_cons_self ..)
  intro e he
  have := key es.toList ((P.funcs[fn]?).any (·.norace)) #[] (fun e => e ∈ es) (by simp) (by simp) e
  apply this
  simp only [← Array.foldl_toList] at he
  exact he

theorem EvsOK.seen {h : Hp} {es : Array Event} (he : EvsOK h es) (fn : FuncId) : EvsOK h (seen P fn es) := fun e h1 => he e (seen_mem P fn es e h1)

/-- What an operation that was carried out leads to. -/
def OpK (P : Program) (main : Bool) (Stop : Goroutine → Hp → Prop) (b : Frame) (a : Act) (o : Oper) (ops : Array Oper) (i : Nat) (rest : List Nat) (k : List Item) (cs : List Frame) : Next → Hp → Prop
  | .value v, h => Run P main Stop (G (b.at (a.put o.dst v) (.inRegion ops rest :: k)) cs) h
  | .skip, h => Run P main Stop (G (b.at (a.put o.dst undef) (.inRegion ops rest :: k)) cs) h
  | .enter f args, h => Run P main Stop (G (Frame.enter P f args .normal) (b.at a (.inRegion ops (i :: rest) :: k) :: cs)) h
  | .defer d, h => Run P main Stop (G (b.at ({ a with defers := d :: a.defers }.put o.dst undef) (.inRegion ops rest :: k)) cs) h
  | _, _ => False
def OpE (P : Program) (main : Bool) (Stop : Goroutine → Hp → Prop) (b : Frame) (a : Act) (cs : List Frame) : Halt → Hp → Prop
  | .panic v, h => ∀ todo, Run P main Stop (G { b.at a todo with mode := .panicking [{ v, recovered := false }] } cs) h
  | _, _ => False

theorem Run.op {b : Frame} {a : Act} {o : Oper} {ops : Array Oper} {i : Nat} {rest : List Nat} {k : List Item} {cs : List Frame} {h : Hp} (ho : ops[i]? = some o)
    (hw : Region.wanted o (yielded ops a.tmps) = true) (hk : b.kind ≠ .early)
    (hwp : wp P (execOp a.eval o) h (OpK P main Stop b a o ops i rest k cs) (OpE P main Stop b a cs)) :
    Run P main Stop (G (b.at a (.inRegion ops (i :: rest) :: k)) cs) h := by
  have hfin : ∀ v, (b.at a (.inRegion ops (i :: rest) :: k)).finish v = b.at (a.put o.dst v) (.inRegion ops rest :: k) := fun v => by rw [Frame.finish_at, ho]; rfl
  have hk' : (b.kind == CallKind.early) = false := by simpa using hk
  refine Run.step (fun g' h' => Run P main Stop g' h') rfl (fun W hW => ?_) (fun _ _ h => h)
  obtain ⟨r, W', es, h', hrun, hd, he, hq⟩ := wp_sound _ hwp hW
  have hrun0 := hrun #[]
  rw [Array.empty_append] at hrun0
  have hst : stepG P main (G (b.at a (.inRegion ops (i :: rest) :: k)) cs) W = stepG.apply P true (b.at a (.inRegion ops (i :: rest) :: k)) cs none (execOp a.eval o) W := stepG_oper ho hw
  have hes : EvsOK h' (seen P b.fn es) := he.seen b.fn
  unfold stepG.apply at hst
  simp only [if_true, hrun0, Frame.at, hk', Bool.false_eq_true, if_false] at hst
  cases r with
  | ok nx w =>
    obtain ⟨rfl, hq⟩ := hq
    cases nx with
    | value v =>
      refine ⟨_, w, seen P b.fn es, h', hst, hd, hes, ?_⟩
      have := hfin v
      simp only [Frame.at] at this
      simp only [this]; exact hq
    | skip =>
      refine ⟨_, w, seen P b.fn es, h', hst, hd, hes, ?_⟩
      have := hfin undef
      simp only [Frame.at] at this
      simp only [this]; exact hq
    | enter f args => exact ⟨_, w, seen P b.fn es, h', hst, hd, hes, hq⟩
    | defer d =>
      refine ⟨_, w, seen P b.fn es, h', hst, hd, hes, ?_⟩
      have : ({ b.at a (.inRegion ops (i :: rest) :: k) with defers := d :: a.defers }).finish undef = b.at ({ a with defers := d :: a.defers }.put o.dst undef) (.inRegion ops rest :: k) := by
        have h2 := Frame.finish_at b { a with defers := d :: a.defers } ops i rest k undef
        rw [ho] at h2; exact h2
      simp only [Frame.at] at this
      simp only [this]; exact hq
    | _ => exact hq.elim
  | halt e w =>
    obtain ⟨rfl, hq⟩ := hq
    cases e with
    | panic v => exact ⟨_, w, seen P b.fn es, h', hst, hd, hes, hq (.inRegion ops (i :: rest) :: k)⟩
    | _ => exact hq.elim

theorem Run.opSkip {b : Frame} {a : Act} {ops : Array Oper} {i : Nat} {rest : List Nat} {k : List Item} {cs : List Frame} {h : Hp}
    (hw : ((ops[i]?).map (Region.wanted · (yielded ops a.tmps))).getD false = false)
    (h' : Run P main Stop (G (b.at (a.put ((ops[i]?).bind (·.dst)) undef) (.inRegion ops rest :: k)) cs) h) :
    Run P main Stop (G (b.at a (.inRegion ops (i :: rest) :: k)) cs) h := by
  refine Run.ctl rfl (fun W => ?_) h'
  have hfin := Frame.finish_at b a ops i rest k undef
  simp only [Frame.at] at hfin ⊢
  simp [G, stepG, stepG.exec, hw, hfin]

theorem Run.regionEnd {b : Frame} {a : Act} {ops : Array Oper} {k : List Item} {cs : List Frame} {h : Hp} (h' : Run P main Stop (G (b.at a k) cs) h) :
    Run P main Stop (G (b.at a (.inRegion ops [] :: k)) cs) h := Run.ctl rfl (fun W => stepG_region_end) h'

theorem Run.region {b : Frame} {a : Act} {id : Nat} {ops : Array Oper} {k : List Item} {cs : List Frame} {h : Hp}
    (h' : Run P main Stop (G (b.at a (.inRegion ops (List.range ops.size) :: k)) cs) h) : Run P main Stop (G (b.at a (.code (.region id ops false) :: k)) cs) h :=
  Run.ctl rfl (fun W => stepG_region) h'

/-- The orders that a region may take. -/
def Order (P : Program) (ops : Array Oper) (l : List Nat) : Prop := ∃ t, l = Region.schedule (P.follows .mixedOrders) ops t

theorem Run.regionDraw {b : Frame} {a : Act} {id : Nat} {ops : Array Oper} {k : List Item} {cs : List Frame} {h : Hp}
    (h' : ∀ l, Order P ops l → Run P main Stop (G (b.at a (.inRegion ops l :: k)) cs) h) : Run P main Stop (G (b.at a (.code (.region id ops true) :: k)) cs) h := by
  refine Run.step (fun g' h1 => h1 = h ∧ ∃ l, Order P ops l ∧ g' = G (b.at a (.inRegion ops l :: k)) cs) rfl (fun W hW => ?_) (fun g' h1 ⟨e1, l, hl, e2⟩ => by subst e1 e2; exact h' l hl)
  refine ⟨_, { W with drawn := W.drawn + 1 }, #[], h, ?_, ?_, EvsOK.empty _, rfl, _, ⟨W.tape W.drawn (.order b.fn id), rfl⟩, rfl⟩
  · simp [G, stepG, stepG.exec, Frame.at, choose, Sem.run, Question.forced, Question.cut]
  · exact ⟨rfl, rfl, rfl, Nat.le_refl _, fun _ _ _ => rfl, fun _ p o hb => .inl ⟨o, hb⟩, fun _ _ o hb => ⟨o, hb⟩, hW⟩

theorem Run.seq {b : Frame} {a : Act} {x y : Code} {k : List Item} {cs : List Frame} {h : Hp} (h' : Run P main Stop (G (b.at a (.code x :: .code y :: k)) cs) h) :
    Run P main Stop (G (b.at a (.code (.seq x y) :: k)) cs) h := Run.ctl rfl (fun W => stepG_seq) h'
theorem Run.skip {b : Frame} {a : Act} {k : List Item} {cs : List Frame} {h : Hp} (h' : Run P main Stop (G (b.at a k) cs) h) :
    Run P main Stop (G (b.at a (.code .skip :: k)) cs) h := Run.ctl rfl (fun W => stepG_skip) h'
theorem Run.label {b : Frame} {a : Act} {l : Nat} {k : List Item} {cs : List Frame} {h : Hp} (h' : Run P main Stop (G (b.at a k) cs) h) :
    Run P main Stop (G (b.at a (.code (.label l) :: k)) cs) h := Run.ctl rfl (fun W => stepG_label) h'
theorem Run.inBlock {b : Frame} {a : Act} {id : Nat} {k : List Item} {cs : List Frame} {h : Hp} (h' : Run P main Stop (G (b.at a k) cs) h) :
    Run P main Stop (G (b.at a (.inBlock id :: k)) cs) h := Run.ctl rfl (fun W => stepG_inBlock) h'
theorem Run.inScope {b : Frame} {a : Act} {c : Code} {k : List Item} {cs : List Frame} {h : Hp} (h' : Run P main Stop (G (b.at a k) cs) h) :
    Run P main Stop (G (b.at a (.inScope c :: k)) cs) h := Run.ctl rfl (fun W => by simp [G, stepG, stepG.exec, Frame.at]) h'
theorem Run.scope {b : Frame} {a : Act} {c : Code} {k : List Item} {cs : List Frame} {h : Hp} (h' : Run P main Stop (G (b.at a (.code c :: .inScope c :: k)) cs) h) :
    Run P main Stop (G (b.at a (.code (.scope c) :: k)) cs) h := Run.ctl rfl (fun W => by simp [G, stepG, stepG.exec, Frame.at]) h'
theorem Run.cond {b : Frame} {a : Act} {c : Operand} {x y : Code} {t : Bool} {k : List Item} {cs : List Frame} {h : Hp} (hc : a.eval c = .bool t)
    (h' : Run P main Stop (G (b.at a (.code (if t then x else y) :: k)) cs) h) : Run P main Stop (G (b.at a (.code (.cond c x y) :: k)) cs) h := Run.ctl rfl (fun W => stepG_cond hc) h'
theorem Run.block {b : Frame} {a : Act} {id : Nat} {c : Code} {k : List Item} {cs : List Frame} {h : Hp} (h' : Run P main Stop (G (b.at a (.code c :: .inBlock id :: k)) cs) h) :
    Run P main Stop (G (b.at a (.code (.block id c) :: k)) cs) h := Run.ctl rfl (fun W => stepG_block) h'
theorem Run.loop {b : Frame} {a : Act} {c : Code} {k : List Item} {cs : List Frame} {h : Hp} (h' : Run P main Stop (G (b.at a (.code c :: .inLoop c :: k)) cs) h) :
    Run P main Stop (G (b.at a (.code (.loop c) :: k)) cs) h := Run.ctl rfl (fun W => stepG_loop) h'
theorem Run.inLoop {b : Frame} {a : Act} {c : Code} {k : List Item} {cs : List Frame} {h : Hp} (h' : Run P main Stop (G (b.at a (.code c :: .inLoop c :: k)) cs) h) :
    Run P main Stop (G (b.at a (.inLoop c :: k)) cs) h := Run.ctl rfl (fun W => stepG_inLoop) h'
theorem Run.exit {b : Frame} {a : Act} {id : Nat} {k k' : List Item} {cs : List Frame} {h : Hp} (he : exitTo id k = some k') (h' : Run P main Stop (G (b.at a k') cs) h) :
    Run P main Stop (G (b.at a (.code (.exit id) :: k)) cs) h := Run.ctl rfl (fun W => stepG_exit he) h'
theorem Run.goto {b : Frame} {a : Act} {id : Nat} {k k' : List Item} {cs : List Frame} {h : Hp} (he : gotoIn id k = some k') (h' : Run P main Stop (G (b.at a k') cs) h) :
    Run P main Stop (G (b.at a (.code (.goto id) :: k)) cs) h := Run.ctl rfl (fun W => by simp [G, stepG, stepG.exec, Frame.at, he]) h'
theorem Run.end {b : Frame} {a : Act} {cs : List Frame} {h : Hp} (h' : Run P main Stop (G { b.at a [] with mode := .returning } cs) h) :
    Run P main Stop (G (b.at a []) cs) h := Run.ctl rfl (fun W => stepG_end) h'
theorem Run.ret {b : Frame} {a : Act} {k : List Item} {cs : List Frame} {h : Hp} (h' : Run P main Stop (G { b.at a (.code .ret :: k) with mode := .returning } cs) h) :
    Run P main Stop (G (b.at a (.code .ret :: k)) cs) h := Run.ctl rfl (fun W => by simp [G, stepG, stepG.exec, Frame.at]) h'

/-! ### Calls -/
inductive End where
  | ret (v : Value)
  | panic (chain : List PanicEntry)

def Leaving (P : Program) (fr : Frame) (h : Hp) : End → Prop
  | .ret v => fr.mode = .returning ∧ fr.defers = [] ∧ fr.roundOf = none ∧ ∃ fn, P.funcs[fr.fn]? = some fn ∧ ∀ k : Hp, (∀ c x, h c = some x → k c = some x) → wp P (results fn fr.tmps) k (fun v' k' => v' = v ∧ k' = k) (fun _ _ => False)
  | .panic chain => fr.mode = .panicking chain ∧ fr.defers = [] ∧ fr.roundOf = none ∧ ∃ fn, P.funcs[fr.fn]? = some fn

/-- The contract of a call: whoever calls, in whatever company. -/
def CallsL (P : Program) (main : Bool) (f : FuncId) (args : Array Value) (h : Hp) (R : End → Hp → Prop) : Prop :=
  ∀ (κ : CallKind) (Stop : Goroutine → Hp → Prop) (cs : List Frame), κ ≠ .early →
    (∀ e fr h', R e h' → Leaving P fr h' e → fr.fn = f → fr.kind = κ → Run P main Stop (G fr cs) h') → Run P main Stop (G (Frame.enter P f args κ) cs) h

theorem CallsL.mono {f : FuncId} {args : Array Value} {h : Hp} {R R' : End → Hp → Prop} (hc : CallsL P main f args h R) (hr : ∀ e h', R e h' → R' e h') : CallsL P main f args h R' :=
  fun κ Stop cs hκ hk => hc κ Stop cs hκ fun e fr h' h1 h2 h3 h4 => hk e fr h' (hr _ _ h1) h2 h3 h4

theorem Run.return {fr c : Frame} {cs : List Frame} {h : Hp} {v : Value} (hl : Leaving P fr h (.ret v)) (hk : fr.kind = .normal ∨ fr.kind = .wrapped)
    (h' : Run P main Stop (G (c.finish v) cs) h) : Run P main Stop (G fr (c :: cs)) h := by
  obtain ⟨hm, hd, hr, fn, hf, hwp⟩ := hl
  refine Run.step (fun g' h1 => g' = G (c.finish v) cs ∧ h1 = h) rfl (fun W hW => ?_) (by rintro g1 h1 ⟨rfl, rfl⟩; exact h')
  obtain ⟨r, W', es, h1, hrun, hdid, he, hq⟩ := wp_sound _ (hwp h fun _ _ h => h) hW
  have hrun0 := hrun #[]
  rw [Array.empty_append] at hrun0
  cases r with
  | halt e w => exact hq.2.elim
  | ok v' w =>
    obtain ⟨rfl, rfl, rfl⟩ := hq
    refine ⟨_, w, seen P fr.fn es, h1, ?_, hdid, he.seen fr.fn, rfl, rfl⟩
    rcases hk with hk | hk <;> simp only [G, stepG, hm, unwind, hd, hf, hrun0, doReturn, hk, GStep.after, Array.append_empty]

theorem Run.unwind {fr c : Frame} {cs : List Frame} {h : Hp} {chain : List PanicEntry} (hl : Leaving P fr h (.panic chain))
    (h' : Run P main Stop (G (c.raise chain) cs) h) : Run P main Stop (G fr (c :: cs)) h := by
  obtain ⟨hm, hd, hr, fn, hf⟩ := hl
  refine Run.ctl rfl (fun W => ?_) h'
  simp [G, stepG, hm, Go.unwind, hd, Frame.catches, hf]
end
end Go.Proofs.YtfiephhdkloaeaaGreat.Ch
end

section
set_option linter.unusedVariables false
namespace Go.Proofs.YtfiephhdkloaeaaGreat.Ch
open Go Go.Conc

inductive AV where
  | int (k : IntKind) (n : Int)
  | bool (b : Bool)
  | str (s : ByteArray)
  | ptr (a : Addr)
  | nilp
  | sl (a : Option Addr) (len cap : Nat)
  | map (r : Option Nat)
  | chan (r : Option Nat)
  | nilf
  | nili
  | bptr (id off add : Nat)
  | bsl (id off add len cap : Nat)
  | run (k : IntKind) (n : Nat) (xs : List Int)
  | agg (cs : List AV)
  | tup (vs : List AV)
  | fn (f : Fn) (first cap : List AV)
  | iface (t : TypeId) (v : AV)
  deriving Inhabited

def ints (k : IntKind) (xs : List Int) : List Value := xs.map fun x => .int k x

mutual
def AV.val (β : Nat → Nat) : AV → Value
  | .int k n => .int k n
  | .bool b => .bool b
  | .str s => .string s
  | .ptr a => .pointer (some a)
  | .nilp => .pointer none
  | .sl a l c => .slice a l c
  | .map r => .map r
  | .chan r => .chan r
  | .nilf => .nilFunc
  | .nili => .nilIface
  | .bptr id off add => .pointer (some ⟨β id, off + add, none⟩)
  | .bsl id off add l c => .slice (some ⟨β id, off + add, none⟩) l c
  | .run k _ xs => .agg (ints k xs).toArray
  | .agg cs => .agg (cellsL β cs).toArray
  | .tup vs => .tuple (valsL β vs).toArray
  | .fn f first cap => .func f (valsL β first).toArray (valsL β cap).toArray
  | .iface t v => .iface t (v.val β)
def valsL (β : Nat → Nat) : List AV → List Value
  | [] => []
  | v :: vs => v.val β :: valsL β vs
def cellsL (β : Nat → Nat) : List AV → List Value
  | [] => []
  | .run k _ xs :: cs => ints k xs ++ cellsL β cs
  | v :: cs => v.val β :: cellsL β cs
end

def AV.cs : AV → List AV
  | .agg cs => cs
  | v => [v]

/- All boxes that are named are below n. -/
mutual
def AV.bd (n : Nat) : AV → Bool
  | .bptr id .. => Nat.blt id n
  | .bsl id .. => Nat.blt id n
  | .agg cs => bdL n cs
  | .tup vs => bdL n vs
  | .fn _ first cap => bdL n first && bdL n cap
  | .iface _ v => v.bd n
  | _ => true
def bdL (n : Nat) : List AV → Bool
  | [] => true
  | v :: vs => v.bd n && bdL n vs
end

/- Each run is as1 long as1 it says. -/
mutual
def AV.wf : AV → Prop
  | .run _ n xs => xs.length = n
  | .agg cs => wfL cs
  | .tup vs => wfL vs
  | .fn _ first cap => wfL first ∧ wfL cap
  | .iface _ v => v.wf
  | _ => True
def wfL : List AV → Prop
  | [] => True
  | v :: vs => v.wf ∧ wfL vs
end

/- A box laid bare: its block has a number. -/
mutual
def AV.sub (i r : Nat) : AV → AV
  | .bptr id off add => bif Nat.beq id i then .ptr ⟨r, off + add, none⟩ else .bptr id off add
  | .bsl id off add l c => bif Nat.beq id i then .sl (some ⟨r, off + add, none⟩) l c else .bsl id off add l c
  | .agg cs => .agg (subL i r cs)
  | .tup vs => .tup (subL i r vs)
  | .fn f first cap => .fn f (subL i r first) (subL i r cap)
  | .iface t v => .iface t (v.sub i r)
  | v => v
def subL (i r : Nat) : List AV → List AV
  | [] => []
  | v :: vs => v.sub i r :: subL i r vs
end

mutual
def AV.ids : AV → List Nat
  | .bptr id .. => [id]
  | .bsl id .. => [id]
  | .agg cs => idsL cs
  | .tup vs => idsL vs
  | .fn _ first cap => idsL first ++ idsL cap
  | .iface _ v => v.ids
  | _ => []
def idsL : List AV → List Nat
  | [] => []
  | v :: vs => v.ids ++ idsL vs
end

/-- One cell's value. -/
def AV.sc : AV → Bool
  | .agg _ | .tup _ | .run .. => false
  | _ => true

abbrev Env := List (Nat × AV)
abbrev Bx := List (Nat × TypeId × List AV)

def lk : Env → Nat → Option AV
  | [], _ => none
  | (d, v) :: e, t => bif Nat.beq d t then some v else lk e t
def lkB : Bx → Nat → Option (TypeId × List AV)
  | [], _ => none
  | (d, v) :: e, t => bif Nat.beq d t then some v else lkB e t
def setB : Bx → Nat → List AV → Bx
  | [], _, _ => []
  | (d, t, c) :: e, i, c' => bif Nat.beq d i then (d, t, c') :: setB e i c' else (d, t, c) :: setB e i c'
def subE (i r : Nat) : Env → Env
  | [] => []
  | (d, v) :: e => (d, v.sub i r) :: subE i r e
/-- The other boxes, that box named by its block. -/
def subB (i r : Nat) : Bx → Bx
  | [] => []
  | (d, t, c) :: e => bif Nat.beq d i then subB i r e else (d, t, subL i r c) :: subB i r e

def ofCell : Value → Option AV
  | .int k n => some (.int k n)
  | .bool b => some (.bool b)
  | .string s => some (.str s)
  | .slice a l c => some (.sl a l c)
  | .pointer (some a) => some (.ptr a)
  | .pointer none => some .nilp
  | .map r => some (.map r)
  | .chan r => some (.chan r)
  | .nilFunc => some .nilf
  | .nilIface => some .nili
  | _ => none
def ofCells : List Value → Option (List AV)
  | [] => some []
  | v :: vs => match ofCell v with
    | some a => match ofCells vs with
      | some as1 => some (a :: as1)
      | none => none
    | none => none
def ofV : Value → Option AV
  | .agg cs => match ofCells cs.toList with
    | some as1 => some (.agg as1)
    | none => none
  | .func f first cap => match ofCells first.toList with
    | some as1 => match ofCells cap.toList with
      | some bs => some (.fn f as1 bs)
      | none => none
    | none => none
  | v => ofCell v

def ev (e : Env) : Operand → Option AV
  | .tmp t => lk e t
  | .const v => ofV v
  | .global g => some (.ptr ⟨g, 0, none⟩)
  | .func f => some (.fn (.func f) [] [])
def evs (e : Env) : List Operand → Option (List AV)
  | [] => some []
  | x :: xs => match ev e x with
    | some v => match evs e xs with
      | some vs => some (v :: vs)
      | none => none
    | none => none

/-- How many cells. -/
def widthL : List AV → Nat
  | [] => 0
  | .run _ m _ :: r => m + widthL r
  | _ :: r => 1 + widthL r

/-- What is known of a type. -/
inductive TD where
  | int (k : IntKind)
  | bool
  | str
  | slice (e esz : Nat)
  | array (n e esz : Nat)
  | struct (fs : List (Nat × Nat × Nat))
  | ptr
  | iface
  | other
structure TI where
  d : TD
  size : Nat
  agg : Bool
  zero : List AV
/-- The types, and which functions have a body. -/
structure Tab where
  ty : Nat → Option TI
  go : Nat → Bool

/-! reading and writing the cells of a box -/
def rdOne (cs : List AV) (off add : Nat) (K : AV → Prop) : Prop :=
  match cs with
  | [] => False
  | .run k m xs :: rest => bif Nat.ble m off then rdOne rest (off - m) add K else (off + add < m ∧ K (.int k (xs.getD (off + add) 0)))
  | v :: rest => match off with
    | o + 1 => rdOne rest o add K
    | 0 => match add with
      | 0 => K v
      | a + 1 => rdOne rest 0 a K
def wrOne (cs : List AV) (off add : Nat) (v : AV) (K : List AV → Prop) : Prop :=
  match cs with
  | [] => False
  | .run k m xs :: rest => bif Nat.ble m off then wrOne rest (off - m) add v (fun r => K (.run k m xs :: r))
      else match v with
        | .int k' n => bif decide (k = k') then (off + add < m ∧ K (.run k m (xs.set (off + add) n) :: rest)) else False
        | _ => False
  | c :: rest => match off with
    | o + 1 => wrOne rest o add v (fun r => K (c :: r))
    | 0 => match add with
      | 0 => K (v :: rest)
      | a + 1 => wrOne rest 0 a v (fun r => K (c :: r))
def rdMany (cs : List AV) (off add n : Nat) (K : List AV → Prop) : Prop :=
  match n with
  | 0 => K []
  | n' + 1 => match cs with
    | [] => False
    | .run k m xs :: rest => bif Nat.ble m off then rdMany rest (off - m) add n K
        else bif Nat.beq off 0 && Nat.ble m n then (add = 0 ∧ rdMany rest 0 0 (n - m) (fun r => K (.run k m xs :: r)))
        else (off + add + n ≤ m ∧ K [.run k n ((xs.drop (off + add)).take n)])
    | c :: rest => match off with
      | o + 1 => rdMany rest o add n K
      | 0 => match add with
        | 0 => rdMany rest 0 0 n' (fun r => K (c :: r))
        | a + 1 => rdMany rest 0 a n K
def wrMany (cs : List AV) (off add : Nat) (vs : List AV) (K : List AV → Prop) : Prop :=
  match cs with
  | [] => match vs with
    | [] => K []
    | _ => False
  | .run k m xs :: rest => match vs with
    | [] => K (.run k m xs :: rest)
    | v :: vs' => bif Nat.ble m off then wrMany rest (off - m) add vs (fun r => K (.run k m xs :: r))
          else match v with
            | .run k' m' ys => bif decide (k = k') then (bif Nat.beq m m' then (off + add = 0 ∧ wrMany rest 0 0 vs' (fun r => K (.run k m ys :: r)))
                else (off + add + m' ≤ m ∧ vs' = [] ∧ K (.run k m (xs.take (off + add) ++ ys ++ xs.drop (off + add + m')) :: rest))) else False
            | _ => False
  | c :: rest => match vs with
    | [] => K (c :: rest)
    | v :: vs' => match off with
        | o + 1 => wrMany rest o add vs (fun r => K (c :: r))
        | 0 => match add with
          | 0 => bif v.sc then wrMany rest 0 0 vs' (fun r => K (v :: r)) else False
          | a + 1 => wrMany rest 0 a vs (fun r => K (c :: r))

/-- Cells that lie in the fragment. -/
def CellsAt (h : Hp) (a : Addr) (vs : List Value) : Prop := ∀ i v, vs[i]? = some v → Cell h (a.add i) v

/-- A load from memory outside the boxes: name what lies there. -/
structure LdE (h : Hp) (sz : Nat) (isA : Bool) (a : Addr) (K : AV → Prop) : Prop where
  out : ∃ v : AV, v.bd 0 = true ∧ v.wf ∧ CellsAt h a (cellsL id v.cs) ∧ (cellsL id v.cs).length = sz ∧ (match v with | .agg _ => isA = true | v => v.sc = true ∧ isA = false) ∧ K v
/-- What a pending load looks at stands. -/
def KeepH : List AV → Hp → Hp → Prop
  | [], _, _ => True
  | .ptr a :: r, h, h' => h' a.block = h a.block ∧ KeepH r h h'
  | _ :: r, h, h' => KeepH r h h'
def noBox (i : Nat) : List AV → Bool
  | [] => true
  | .bptr id _ _ :: r => bif Nat.beq id i then false else noBox i r
  | _ :: r => noBox i r
/-- Whatever else the machine can do: its own word, asked over the fragment. -/
structure OpX (P : Program) (s : Sem Next) (h : Hp) (pd : List AV) (K : AV → Hp → Prop) : Prop where
  out : wp P s h (fun nx h' => ∃ r : AV, r.bd 0 = true ∧ r.wf ∧ (nx = .value (r.val id) ∨ nx = .skip ∧ r = .tup []) ∧ KeepH pd h h' ∧ K r h') (fun _ _ => False)
/-- The contract of a call, in the executor's words: what is dead may be forgotten. -/
def CallsV (P : Program) (main : Bool) (f : FuncId) (args : List AV) (h : Hp) (R : AV → Hp → Prop) : Prop :=
  CallsL P main f (valsL id args).toArray h (fun e h1 => ∃ (r : AV) (h' : Hp), (∀ c x, h' c = some x → h1 c = some x) ∧ r.bd 0 = true ∧ r.wf ∧ e = .ret (r.val id) ∧ R r h')
structure CallE (P : Program) (main : Bool) (f : FuncId) (args : List AV) (h : Hp) (pd : List AV) (K : AV → Hp → Prop) : Prop where
  out : CallsV P main f args h (fun r h' => KeepH pd h h' ∧ K r h')
/-- An operation that leaves all as1 it is, whatever that is. -/
structure OpP (P : Program) (s : Sem Next) (K : AV → Prop) : Prop where
  out : ∃ r : AV, r.bd 0 = true ∧ r.wf ∧ (∀ h, wp P s h (fun nx h' => nx = .value (r.val id) ∧ h' = h) (fun _ _ => False)) ∧ K r
structure Chk (p q : Prop) : Prop where
  out : p ∧ q

/-- What is forgotten, and what is kept under its name. -/
def KeepE (e : Env) : Env → Prop
  | [] => True
  | (t, v) :: r => lk e t = some v ∧ KeepE e r
def KeepB (b : Bx) : Bx → Prop
  | [] => True
  | (i, T, c) :: r => lkB b i = some (T, c) ∧ KeepB b r
def bdE (n : Nat) : Env → Bool
  | [] => true
  | (_, v) :: r => v.bd n && bdE n r
def bdB (n : Nat) : Bx → Bool
  | [] => true
  | (i, _, c) :: r => Nat.blt i n && bdL n c && bdB n r

abbrev SP := Env → Nat → Bx → Hp → Prop
structure WkE (X : SP) (e : Env) (b : Bx) (h : Hp) : Prop where
  out : ∃ e' n' b', KeepE e e' ∧ KeepB b b' ∧ bdE n' e' = true ∧ bdB n' b' = true ∧ X e' n' b' h
structure LoopE (F : SP → SP) (e : Env) (n : Nat) (b : Bx) (h : Hp) : Prop where
  out : ∀ X : SP, (∀ e n b h, F X e n b h → X e n b h) → X e n b h

/-- A branch. -/
abbrev brc (b : Bool) (p q : Prop) : Prop := @Bool.rec (fun _ => Prop) q p b

/-- Boxes that are handed on are laid bare. pd: what must stand. -/
def revL : List Nat → Env → Bx → Hp → List AV → List AV → (Env → Bx → Hp → List AV → List AV → Prop) → Prop
  | [], e, b, h, vs, pd, K => K e b h vs pd
  | i :: r, e, b, h, vs, pd, K => match lkB b i with
    | none => revL r e b h vs pd K
    | some (T, cs) => bif bdL 0 cs then ∀ blk, h blk = none → revL r (subE i blk e) (subB i blk b) (h.set blk (true, .cells (cellsL id cs).toArray T (0, 0))) (subL i blk vs) (subL i blk pd) K else False

def cmp (p : Bool) (K : AV → Prop) : Prop := brc p (K (.bool true)) (K (.bool false))

def intBin (op : BinOp) (k : IntKind) (a c : Int) (K : AV → Prop) : Prop :=
  match op with
  | .add => K (.int k (k.wrap (a + c)))
  | .sub => K (.int k (k.wrap (a - c)))
  | .mul => K (.int k (k.wrap (a * c)))
  | .and => K (.int k (k.wrap (BitVec.ofInt k.bits a &&& BitVec.ofInt k.bits c).toNat))
  | .or => K (.int k (k.wrap (BitVec.ofInt k.bits a ||| BitVec.ofInt k.bits c).toNat))
  | .xor => K (.int k (k.wrap (BitVec.ofInt k.bits a ^^^ BitVec.ofInt k.bits c).toNat))
  | .andNot => K (.int k (k.wrap (BitVec.ofInt k.bits a &&& ~~~ BitVec.ofInt k.bits c).toNat))
  | .quo => Chk (c ≠ 0) (K (.int k (k.wrap (a.tdiv c))))
  | .rem => Chk (c ≠ 0) (K (.int k (a.tmod c)))
  | .eql => cmp (decide (a = c)) K
  | .neq => cmp (!decide (a = c)) K
  | .lss => cmp (decide (a < c)) K
  | .leq => cmp (decide (a ≤ c)) K
  | .gtr => cmp (decide (c < a)) K
  | .geq => cmp (decide (c ≤ a)) K
  | _ => False

def eqK (op : BinOp) (p : Bool) (K : AV → Prop) : Prop :=
  match op with
  | .eql => cmp p K
  | .neq => cmp (!p) K
  | _ => False

def binK (d : Option TI) (op : BinOp) (x y : AV) (K : AV → Prop) (other : Prop) : Prop :=
  match x with
  | .int k a => match y with
    | .int k' c => match op with
      | .shl => Chk (0 ≤ c) (K (.int k (k.wrap (a * 2 ^ (min c.toNat k.bits)))))
      | .shr => Chk (0 ≤ c) (K (.int k (a.fdiv (2 ^ (min c.toNat k.bits)))))
      | op => bif decide (k = k') then intBin op k a c K else False
    | _ => False
  | .bool p => match y with
    | .bool q => match d with
      | some ⟨.bool, _, _, _⟩ => eqK op (p == q) K
      | _ => False
    | _ => False
  | .ptr _ => match y with
    | .nilp => match d with
      | some ⟨.ptr, _, _, _⟩ => eqK op false K
      | _ => other
    | _ => other
  | .bptr .. => match y with
    | .nilp => match d with
      | some ⟨.ptr, _, _, _⟩ => eqK op false K
      | _ => other
    | _ => other
  | .nilp => match y with
    | .nilp => match d with
      | some ⟨.ptr, _, _, _⟩ => eqK op true K
      | _ => other
    | _ => other
  | .sl a _ _ => match y with
    | .sl c _ _ => match d with
      | some ⟨.slice _ _, _, _, _⟩ => match a with
        | none => eqK op c.isNone K
        | some _ => match c with
          | none => eqK op false K
          | some _ => False
      | _ => False
    | _ => False
  | _ => other

/-- Bounds of a slicing. -/
def slL (e : Env) (lo : Option Operand) (hi : Nat) (X : Option Nat → Nat → Prop) : Prop :=
  match lo with
  | none => X none hi
  | some y => match ev e y with
    | some (.int _ p) => Chk (0 ≤ p ∧ p ≤ hi) (X (some p.toNat) hi)
    | _ => False
def slK (e : Env) (lo hi : Option Operand) (len cap : Nat) (X : Option Nat → Nat → Prop) : Prop :=
  match hi with
  | none => slL e lo len X
  | some y => match ev e y with
    | some (.int _ q) => Chk (0 ≤ q ∧ q ≤ cap) (slL e lo q.toNat X)
    | _ => False

/-- The parts of a composite are laid in. -/
def bld (pl : Nat → Option (Nat × Nat)) (e : Env) : List (Nat × Operand) → List AV → (List AV → Prop) → Prop
  | [], cs, X => X cs
  | (i, x) :: r, cs, X => match pl i with
    | none => False
    | some (off, sz) => bif Nat.beq sz 0 then False else match ev e x with
      | none => False
      | some (.agg vs) => bif Nat.beq (widthL vs) sz then wrMany cs off 0 vs (fun cs => bld pl e r cs X) else False
      | some v => bif v.sc && Nat.beq sz 1 then wrOne cs off 0 v (fun cs => bld pl e r cs X) else False
def rep (m : Nat) (z : List AV) : List AV :=
  match m with
  | 0 => []
  | _ => match z with
    | [.int k 0] => [.run k m (List.replicate m 0)]
    | z => (List.replicate m z).flatten

/-- What is looked at. -/
def pdQ (e : Env) (op : Op) : List AV :=
  match op with
  | .load _ x => match ev e x with
    | some v => [v]
    | none => []
  | _ => []

/-- Operations that leave all as1 it is. -/
def vcQ (T : Tab) (op : Op) (e : Env) (b : Bx) (h : Hp) (X : AV → Prop) (other : Prop) : Prop :=
  match op with
  | .move x => match ev e x with
    | some v => X v
    | none => False
  | .assign x => match ev e x with
    | some v => X v
    | none => False
  | .pick c x y => match ev e c with
    | some (.bool t) => brc t (match ev e x with
      | some v => X v
      | none => False) (match ev e y with
      | some v => X v
      | none => False)
    | _ => False
  | .binOp op t x y _ => match ev e x with
    | some x => match ev e y with
      | some y => binK (T.ty t) op x y X other
      | none => False
    | none => False
  | .unOp op _ x => match ev e x with
    | some (.bool t) => match op with
      | .not => X (.bool (!t))
      | _ => False
    | some (.int k a) => match op with
      | .neg => X (.int k (k.wrap (0 - a)))
      | _ => other
    | _ => other
  | .fieldAddr t x f => match T.ty t with
    | some ⟨.struct fs, _, _, _⟩ => match fs[f]? with
      | some (off, _, sz) => bif Nat.beq sz 0 then False else match ev e x with
        | some (.bptr id o a) => X (.bptr id (o + off) a)
        | some (.ptr a) => X (.ptr (a.add off))
        | _ => False
      | none => False
    | _ => False
  | .indexAddr t x i => match T.ty t with
    | some ⟨.slice _ sz, _, _, _⟩ => match ev e x with
      | some (.sl a len _) => match ev e i with
        | some (.int _ j) => match a with
          | some a => Chk (0 ≤ j ∧ j < len) (X (.ptr (a.add (j.toNat * sz))))
          | none => False
        | _ => False
      | some (.bsl id o ad len _) => match ev e i with
        | some (.int _ j) => Chk (0 ≤ j ∧ j < len) (X (.bptr id o (ad + j.toNat * sz)))
        | _ => False
      | _ => False
    | some ⟨.array m _ sz, _, _, _⟩ => match ev e x with
      | some (.bptr id o ad) => match ev e i with
        | some (.int _ j) => Chk (0 ≤ j ∧ j < m) (X (.bptr id o (ad + j.toNat * sz)))
        | _ => False
      | some (.ptr a) => match ev e i with
        | some (.int _ j) => Chk (0 ≤ j ∧ j < m) (X (.ptr (a.add (j.toNat * sz))))
        | _ => False
      | _ => False
    | _ => False
  | .load t x => match T.ty t with
    | some i => match ev e x with
      | some (.bptr id o ad) => match lkB b id with
        | some (_, cs) => bif i.agg then rdMany cs o ad i.size (fun r => X (.agg r)) else rdOne cs o ad X
        | none => False
      | some (.ptr a) => bif Nat.beq i.size 0 then False else LdE h i.size i.agg a X
      | _ => False
    | none => False
  | .convert s d x => match T.ty d with
    | some ⟨.int k, _, _, _⟩ => match ev e x with
      | some (.int _ a) => match T.ty s with
        | some _ => X (.int k (k.wrap a))
        | none => False
      | _ => other
    | _ => other
  | .nilCheck x => match ev e x with
    | some (.ptr a) => X (.ptr a)
    | some (.bptr id o ad) => X (.bptr id o ad)
    | _ => other
  | .makeFunc f first cap => match evs e first.toList with
    | some as1 => match evs e cap.toList with
      | some bs => X (.fn f as1 bs)
      | none => False
    | none => False
  | .extract t i => match ev e t with
    | some (.tup vs) => match vs[i]? with
      | some v => X v
      | none => False
    | _ => False
  | .slice t x lo hi mx => match mx with
    | some _ => other
    | none => match T.ty t with
      | some ⟨.slice _ sz, _, _, _⟩ => match ev e x with
        | some (.sl a len cap) => slK e lo hi len cap (fun l h => match l with
          | none => X (.sl a h cap)
          | some l => X (.sl (bif Nat.beq cap l then a else a.map (·.add (l * sz))) (h - l) (cap - l)))
        | some (.bsl id o ad len cap) => slK e lo hi len cap (fun l h => match l with
          | none => X (.bsl id o ad h cap)
          | some l => X (.bsl id o (bif Nat.beq cap l then ad else ad + l * sz) (h - l) (cap - l)))
        | _ => other
      | some ⟨.array m _ sz, _, _, _⟩ => match ev e x with
        | some (.bptr id o ad) => slK e lo hi m m (fun l h => match l with
          | none => X (.bsl id o ad h m)
          | some l => X (.bsl id o (bif Nat.beq m l then ad else ad + l * sz) (h - l) (m - l)))
        | some (.ptr a) => slK e lo hi m m (fun l h => match l with
          | none => X (.sl (some a) h m)
          | some l => X (.sl (some (bif Nat.beq m l then a else a.add (l * sz))) (h - l) (m - l)))
        | _ => other
      | _ => other
  | .build t parts => match T.ty t with
    | some ⟨.struct fs, _, _, z⟩ => bld (fun i => (fs[i]?).map fun x => (x.1, x.2.2)) e parts.toList z (fun cs => X (.agg cs))
    | some ⟨.array _ _ sz, _, _, z⟩ => bld (fun i => some (i * sz, sz)) e parts.toList z (fun cs => X (.agg cs))
    | _ => False
  | .call c => match c.callee with
    | .builtin .len => match c.args.toList with
      | [x] => match c.argTypes[0]? with
        | some t => match T.ty t with
          | some ⟨.slice _ _, _, _, _⟩ => match ev e x with
            | some (.sl _ l _) => X (.int .i64 l)
            | some (.bsl _ _ _ l _) => X (.int .i64 l)
            | _ => other
          | some ⟨.str, _, _, _⟩ => match ev e x with
            | some (.str s) => X (.int .i64 s.size)
            | _ => other
          | _ => other
        | none => False
      | _ => False
    | _ => other
  | _ => other

/-- Ops whose turn among others does not matter. -/
def quietOp (o : Op) : Bool :=
  match o with
  | .move _ | .assign _ | .pick .. | .binOp .. | .unOp .. | .fieldAddr .. | .indexAddr .. | .load .. | .convert .. | .nilCheck _ | .makeFunc .. | .extract .. | .slice .. | .build .. | .field .. | .index .. | .makeInterface .. => true
  | .call c => match c.callee with
    | .builtin .len => true
    | _ => false
  | _ => false

/-- One operation. -/
def vcOp (P : Program) (main : Bool) (T : Tab) (o : Oper) (e : Env) (n : Nat) (b : Bx) (h : Hp) (pd : List AV) (K : AV → Env → Nat → Bx → Hp → List AV → Prop) : Prop :=
  let other := fun (_ : Unit) => match evs e o.op.operands.toList with
    | some vs => revL (idsL vs) e b h vs pd (fun e b h vs pd => bif bdL 0 vs then OpX P (execOp (fun x => ((ev e x).getD .nilp).val id) o) h pd (fun r h' => K r e n b h' pd) else False)
    | none => False
  match o.op with
  | .box t x => match ev e x with
    | some v => K (.bptr n 0 0) e (n + 1) ((n, t, v.cs) :: b) h pd
    | none => False
  | .alloc t => match T.ty t with
    | some i => K (.bptr n 0 0) e (n + 1) ((n, t, i.zero) :: b) h pd
    | none => False
  | .buildSlice t len parts => match T.ty t with
    | some ⟨.slice el sz, _, _, _⟩ => match T.ty el with
      | some i => bif Nat.ble (len * sz) (2 ^ 24) && Nat.beq (widthL i.zero) sz then bld (fun i => some (i * sz, sz)) e parts.toList (rep len i.zero) (fun cs => K (.bsl n 0 0 len len) e (n + 1) ((n, el, cs) :: b) h pd) else False
      | none => False
    | _ => False
  | .store t x y => match T.ty t with
    | some i => match ev e x with
      | some (.bptr id o ad) => match ev e y with
        | some v => match lkB b id with
          | some (_, cs) => bif noBox id pd then (bif i.agg then (match v with
              | .agg vs => bif Nat.beq (widthL vs) i.size then wrMany cs o ad vs (fun r => K (.tup []) e n (setB b id r) h pd) else False
              | _ => False)
            else bif v.sc && Nat.beq i.size 1 then wrOne cs o ad v (fun r => K (.tup []) e n (setB b id r) h pd) else False) else False
          | none => False
        | none => False
      | _ => other ()
    | none => False
  | .call c => match c.callee with
    | .value f => match ev e f with
      | some (.fn (.func g) first cap) => bif !T.go g then other () else match evs e c.args.toList with
        | some vs => revL (idsL (first ++ vs ++ cap)) e b h (first ++ vs ++ cap) pd (fun e b h vs pd => bif bdL 0 vs && T.go g then CallE P main g vs h pd (fun r h' => K r e n b h' pd) else False)
        | none => False
      | _ => False
    | .builtin .len => vcQ T (.call c) e b h (fun v => K v e n b h pd) (other ())
    | .builtin _ => other ()
    | _ => False
  | .go _ => False
  | .defer _ => False
  | .send .. => False
  | .recv .. => False
  | .select .. => False
  | op => bif quietOp op then vcQ T op e b h (fun v => K v e n b h pd) (other ()) else other ()

/-- The slot is written. -/
def putE (N : Nat) (dst : Option Tmp) (v : AV) (e : Env) (K : Env → Prop) : Prop :=
  match dst with
  | some d => bif Nat.blt d N then K ((d, v) :: e) else False
  | none => K e

def vcOps (P : Program) (main : Bool) (T : Tab) (N : Nat) (all : List Oper) (ops : List Oper) (e : Env) (n : Nat) (b : Bx) (h : Hp) (K : SP) : Prop :=
  match ops with
  | [] => K e n b h
  | o :: rest =>
    match o.guard with
    | none => vcOp P main T o e n b h [] (fun v e n b h _ => putE N o.dst v e (fun e => vcOps P main T N all rest e n b h K))
    | some (j, want) => match (all[j]?).bind (·.dst) with
      | some d => match lk e d with
        | some (.bool t) =>
          match want with
          | true => brc t (vcOp P main T o e n b h [] (fun v e n b h _ => putE N o.dst v e (fun e => vcOps P main T N all rest e n b h K))) (putE N o.dst (.tup []) e (fun e => vcOps P main T N all rest e n b h K))
          | false => brc t (putE N o.dst (.tup []) e (fun e => vcOps P main T N all rest e n b h K)) (vcOp P main T o e n b h [] (fun v e n b h _ => putE N o.dst v e (fun e => vcOps P main T N all rest e n b h K)))
        | some (.tup _) => putE N o.dst (.tup []) e (fun e => vcOps P main T N all rest e n b h K)
        | _ => False
      | none => False

/-! ### regions in any order -/
/-- How an operation takes its turn: it leaves all as1 it is; it takes a new block; anything. -/
inductive Tn where
  | q
  | a
  | g
  deriving DecidableEq

def vcSeq (P : Program) (main : Bool) (T : Tab) (N : Nat) (all : List Oper) (M : Nat → Nat) : List (Nat × Tn) → Env → Nat → Bx → Hp → List (Nat × AV) → SP → Prop
  | [], e, n, b, h, _, K => K e n b h
  | (i, tn) :: σ, e, n, b, h, pd, K => match all[i]? with
    | none => False
    | some o =>
      let go := fun (_ : Unit) => match tn with
        | .q => bif quietOp o.op then vcQ T o.op e b h (fun v => putE N o.dst v e (fun e' => vcSeq P main T N all M σ e' n b h ((pdQ e o.op).map (fun x => (i, x)) ++ pd) K))
            (match evs e o.op.operands.toList with
            | some vs => bif bdL 0 vs then OpP P (execOp (fun x => ((ev e x).getD .nilp).val id) o) (fun v => putE N o.dst v e (fun e' => vcSeq P main T N all M σ e' n b h pd K)) else False
            | none => False) else False
        | .a => match o.op with
          | .alloc t => match T.ty t with
            | some ti => putE N o.dst (.bptr n 0 0) e (fun e' => vcSeq P main T N all M σ e' (n + 1) ((n, t, ti.zero) :: b) h pd K)
            | none => False
          | _ => False
        | .g => vcOp P main T o e n b h ((pd.filter fun x => !(M i).testBit x.1).map (·.2)) (fun v e n b h pd' => putE N o.dst v e (fun e' => vcSeq P main T N all M σ e' n b h (((pd.filter fun x => !(M i).testBit x.1).map (·.1)).zip pd') K))
      let skip := fun (_ : Unit) => putE N o.dst (.tup []) e (fun e' => vcSeq P main T N all M σ e' n b h pd K)
      match o.guard with
      | none => go ()
      | some (j, want) => match (all[j]?).bind (·.dst) with
        | some d => match lk e d with
          | some (.bool t) => match want with
            | true => brc t (go ()) (skip ())
            | false => brc t (skip ()) (go ())
          | some (.tup _) => skip ()
          | _ => False
        | none => False

def noSel (l : List Oper) : Bool := l.all fun o => match o.op with
  | .select .. => false
  | _ => true
def maskOf (ms : List Nat) (o : Oper) : Nat := o.after.toList.foldl (fun s e => if Region.binds .any e then s ||| 2 ^ e.on ||| ms.getD e.on 0 else s) 0
def swapT : Tn → Tn → Bool
  | .q, _ => true
  | .a, .a => true
  | .g, .a => true
  | _, _ => false
def canonGo (T : Tab) (ops : Array Oper) (l : List Oper) (ms : List Nat) : List (Nat × Tn) → List (Nat × Tn) → Bool
  | _, [] => true
  | pre, y :: suf => (match l[y.1]? with
    | none => false
    | some o => (o.after.toList.all fun e => !Region.binds .any e || pre.any fun x => x.1 == e.on) &&
      (pre.all fun x => (ms.getD y.1 0).testBit x.1 || (swapT x.2 y.2 && match l[x.1]? with
        | some ox => ox.apart ops o
        | none => false))) && (pre.all fun x => x.1 != y.1) && (match y.2 with
      | .a => (match l[y.1]? with
        | some o => (match o.op with
          | .alloc t => (T.ty t).isSome
          | _ => false)
        | none => false)
      | _ => true) && canonGo T ops l ms (pre ++ [y]) suf
/-- The order that is looked at stands for all. -/
def canonB (T : Tab) (ops : Array Oper) (σ : List (Nat × Tn)) (ms : List Nat) : Bool :=
  noSel ops.toList && (List.range ops.toList.length).all (fun i => σ.any fun x => x.1 == i) &&
  (List.range ops.toList.length).all (fun i => match ops.toList[i]? with
    | some o => ms.getD i 0 == maskOf ms o
    | none => false) && canonGo T ops ops.toList ms [] σ

structure DrawE (P : Program) (main : Bool) (T : Tab) (N : Nat) (ops : Array Oper) (e : Env) (n : Nat) (b : Bx) (h : Hp) (K : SP) : Prop where
  out : ∃ σ ms, canonB T ops σ ms = true ∧ vcSeq P main T N ops.toList (fun i => ms.getD i 0) σ e n b h [] K

inductive Ex where
  | normal
  | exit (id : Nat)
  | ret

def vc (P : Program) (main : Bool) (T : Tab) (N : Nat) (c : Code) (e : Env) (n : Nat) (b : Bx) (h : Hp) (K : Ex → SP) : Prop :=
  match c with
  | .skip => K .normal e n b h
  | .label _ => K .normal e n b h
  | .region _ ops draw => bif draw then DrawE P main T N ops e n b h (K .normal) else vcOps P main T N ops.toList ops.toList e n b h (K .normal)
  | .seq x y => vc P main T N x e n b h (fun ex e n b h => match ex with
    | .normal => vc P main T N y e n b h K
    | .exit i => K (.exit i) e n b h
    | .ret => K .ret e n b h)
  | .cond c x y => match ev e c with
    | some (.bool t) => brc t (vc P main T N x e n b h K) (vc P main T N y e n b h K)
    | _ => False
  | .block id c => vc P main T N c e n b h (fun ex e n b h => match ex with
    | .normal => K .normal e n b h
    | .exit i => bif Nat.beq i id then K .normal e n b h else K (.exit i) e n b h
    | .ret => K .ret e n b h)
  | .scope c => vc P main T N c e n b h K
  | .loop c => WkE (LoopE (fun X e n b h => vc P main T N c e n b h (fun ex e n b h => match ex with
    | .normal => WkE X e b h
    | .exit i => K (.exit i) e n b h
    | .ret => K .ret e n b h))) e b h
  | .exit id => K (.exit id) e n b h
  | .ret => K .ret e n b h
  | _ => False

def ini : Nat → List AV → Env
  | _, [] => []
  | i, v :: vs => (i, v) :: ini (i + 1) vs

/-- The results, as1 they stand at the end. -/
def vcRes (T : Tab) (e : Env) (b : Bx) (rs : List ResultVar) (K : List AV → Prop) : Prop :=
  match rs with
  | [] => K []
  | .tmp t :: r => match lk e t with
    | some v => vcRes T e b r (fun vs => K (v :: vs))
    | none => False
  | .cell t ty :: r => match T.ty ty with
    | some i => match lk e t with
      | some (.bptr id o ad) => match lkB b id with
        | some (_, cs) => bif i.agg then rdMany cs o ad i.size (fun x => vcRes T e b r (fun vs => K (.agg x :: vs))) else rdOne cs o ad (fun v => vcRes T e b r (fun vs => K (v :: vs)))
        | none => False
      | _ => False
    | none => False

structure RetE (R : AV → Hp → Prop) (v : AV) (h : Hp) : Prop where
  out : R v h

def vcBody (P : Program) (main : Bool) (T : Tab) (fn : Func) (args : List AV) (h : Hp) (R : AV → Hp → Prop) : Prop :=
  match fn.body with
  | some c => vc P main T fn.ntmps c (ini 0 args) 0 [] h (fun ex e n b h => match ex with
    | .exit _ => False
    | _ => vcRes T e b fn.results.toList (fun vs => revL (idsL vs) e b h vs [] (fun _ _ h vs _ => bif bdL 0 vs then (match vs with
      | [v] => RetE R v h
      | vs => RetE R (.tup vs) h) else False)))
  | none => False
end Go.Proofs.YtfiephhdkloaeaaGreat.Ch
end

section
set_option linter.unusedVariables false
namespace Go.Proofs.YtfiephhdkloaeaaGreat.Ch
open Go Go.Conc

theorem cellsL_cons {β : Nat → Nat} (v : AV) (cs : List AV) (hr : ∀ k n xs, v ≠ .run k n xs) : cellsL β (v :: cs) = v.val β :: cellsL β cs := by
  cases v <;> first | rfl | exact absurd rfl (hr _ _ _)

mutual
theorem AV.val_congr {β β' : Nat → Nat} {n : Nat} (hb : ∀ i, i < n → β i = β' i) : ∀ v : AV, v.bd n = true → v.val β = v.val β'
  | .int .., _ | .bool .., _ | .str .., _ | .ptr .., _ | .nilp, _ | .sl .., _ | .map .., _ | .chan .., _ | .nilf, _ | .nili, _ | .run .., _ => rfl
  | .bptr id off add, h => by simp only [AV.bd, Nat.blt_eq] at h; simp only [AV.val, hb id h]
  | .bsl id off add l c, h => by simp only [AV.bd, Nat.blt_eq] at h; simp only [AV.val, hb id h]
  | .agg cs, h => by simp only [AV.bd] at h; simp only [AV.val, cellsL_congr hb cs h]
  | .tup vs, h => by simp only [AV.bd] at h; simp only [AV.val, valsL_congr hb vs h]
  | .fn f x y, h => by simp only [AV.bd, Bool.and_eq_true] at h; simp only [AV.val, valsL_congr hb x h.1, valsL_congr hb y h.2]
  | .iface t v, h => by simp only [AV.bd] at h; simp only [AV.val, AV.val_congr hb v h]
theorem valsL_congr {β β' : Nat → Nat} {n : Nat} (hb : ∀ i, i < n → β i = β' i) : ∀ vs : List AV, bdL n vs = true → valsL β vs = valsL β' vs
  | [], _ => rfl
  | v :: vs, h => by simp only [bdL, Bool.and_eq_true] at h; simp only [valsL, AV.val_congr hb v h.1, valsL_congr hb vs h.2]
theorem cellsL_congr {β β' : Nat → Nat} {n : Nat} (hb : ∀ i, i < n → β i = β' i) : ∀ vs : List AV, bdL n vs = true → cellsL β vs = cellsL β' vs
  | [], _ => rfl
  | v :: vs, h => by
    simp only [bdL, Bool.and_eq_true] at h
    have h1 := AV.val_congr hb v h.1
    have h2 := cellsL_congr hb vs h.2
    cases v <;> simp only [cellsL, h2, h1]
end

mutual
theorem AV.bd_mono {n m : Nat} (hnm : n ≤ m) : ∀ v : AV, v.bd n = true → v.bd m = true
  | .int .., _ | .bool .., _ | .str .., _ | .ptr .., _ | .nilp, _ | .sl .., _ | .map .., _ | .chan .., _ | .nilf, _ | .nili, _ | .run .., _ => rfl
  | .bptr id off add, h => by simp only [AV.bd, Nat.blt_eq] at h ⊢; omega
  | .bsl id off add l c, h => by simp only [AV.bd, Nat.blt_eq] at h ⊢; omega
  | .agg cs, h => by simp only [AV.bd] at h ⊢; exact bdL_mono hnm cs h
  | .tup vs, h => by simp only [AV.bd] at h ⊢; exact bdL_mono hnm vs h
  | .fn f x y, h => by simp only [AV.bd, Bool.and_eq_true] at h ⊢; exact ⟨bdL_mono hnm x h.1, bdL_mono hnm y h.2⟩
  | .iface t v, h => by simp only [AV.bd] at h ⊢; exact AV.bd_mono hnm v h
theorem bdL_mono {n m : Nat} (hnm : n ≤ m) : ∀ vs : List AV, bdL n vs = true → bdL m vs = true
  | [], _ => rfl
  | v :: vs, h => by simp only [bdL, Bool.and_eq_true] at h ⊢; exact ⟨AV.bd_mono hnm v h.1, bdL_mono hnm vs h.2⟩
end

mutual
theorem AV.sub_val {β : Nat → Nat} {i : Nat} : ∀ v : AV, (v.sub i (β i)).val β = v.val β
  | .int .. | .bool .. | .str .. | .ptr .. | .nilp | .sl .. | .map .. | .chan .. | .nilf | .nili | .run .. => rfl
  | .bptr id off add => by
    simp only [AV.sub]
    cases h : Nat.beq id i with
    | true => have := Nat.eq_of_beq_eq_true h; subst this; rfl
    | false => rfl
  | .bsl id off add l c => by
    simp only [AV.sub]
    cases h : Nat.beq id i with
    | true => have := Nat.eq_of_beq_eq_true h; subst this; rfl
    | false => rfl
  | .agg cs => by simp only [AV.sub, AV.val, cellsL_sub cs]
  | .tup vs => by simp only [AV.sub, AV.val, valsL_sub vs]
  | .fn f x y => by simp only [AV.sub, AV.val, valsL_sub x, valsL_sub y]
  | .iface t v => by simp only [AV.sub, AV.val, AV.sub_val v]
theorem valsL_sub {β : Nat → Nat} {i : Nat} : ∀ vs : List AV, valsL β (subL i (β i) vs) = valsL β vs
  | [] => rfl
  | v :: vs => by simp only [subL, valsL, AV.sub_val v, valsL_sub vs]
theorem cellsL_sub {β : Nat → Nat} {i : Nat} : ∀ vs : List AV, cellsL β (subL i (β i) vs) = cellsL β vs
  | [] => rfl
  | v :: vs => by
    have h1 := AV.sub_val (β := β) (i := i) v
    have h2 := cellsL_sub (β := β) (i := i) vs
    by_cases hr : ∃ k n xs, v = .run k n xs
    · obtain ⟨k, n, xs, rfl⟩ := hr
      simp only [subL, AV.sub, cellsL, h2]
    · have hv : ∀ k n xs, v ≠ .run k n xs := fun k n xs e => hr ⟨k, n, xs, e⟩
      have hs : ∀ k n xs, v.sub i (β i) ≠ .run k n xs := by
        intro k n xs e
        cases v <;> simp only [AV.sub] at e <;> first | exact hv _ _ _ rfl | exact absurd e (by simp) | (rename_i id _ _; cases h : Nat.beq id i <;> simp [h] at e) | (rename_i id _ _ _ _; cases h : Nat.beq id i <;> simp [h] at e)
      simp only [subL]
      rw [cellsL_cons _ _ hs, cellsL_cons _ _ hv, h1, h2]
end

mutual
theorem AV.sub_bd {n i r : Nat} : ∀ v : AV, v.bd n = true → (v.sub i r).bd n = true
  | .int .., _ | .bool .., _ | .str .., _ | .ptr .., _ | .nilp, _ | .sl .., _ | .map .., _ | .chan .., _ | .nilf, _ | .nili, _ | .run .., _ => rfl
  | .bptr id off add, h => by simp only [AV.sub]; cases hh : Nat.beq id i <;> simp only [cond_true, cond_false] <;> first | rfl | exact h
  | .bsl id off add l c, h => by simp only [AV.sub]; cases hh : Nat.beq id i <;> simp only [cond_true, cond_false] <;> first | rfl | exact h
  | .agg cs, h => by simp only [AV.bd, AV.sub] at h ⊢; exact bdL_sub cs h
  | .tup vs, h => by simp only [AV.bd, AV.sub] at h ⊢; exact bdL_sub vs h
  | .fn f x y, h => by simp only [AV.bd, AV.sub, Bool.and_eq_true] at h ⊢; exact ⟨bdL_sub x h.1, bdL_sub y h.2⟩
  | .iface t v, h => by simp only [AV.bd, AV.sub] at h ⊢; exact AV.sub_bd v h
theorem bdL_sub {n i r : Nat} : ∀ vs : List AV, bdL n vs = true → bdL n (subL i r vs) = true
  | [], _ => rfl
  | v :: vs, h => by simp only [bdL, subL, Bool.and_eq_true] at h ⊢; exact ⟨AV.sub_bd v h.1, bdL_sub vs h.2⟩
end

mutual
theorem AV.sub_wf {i r : Nat} : ∀ v : AV, v.wf → (v.sub i r).wf
  | .int .., _ | .bool .., _ | .str .., _ | .ptr .., _ | .nilp, _ | .sl .., _ | .map .., _ | .chan .., _ | .nilf, _ | .nili, _ => trivial
  | .run .., h => h
  | .bptr id off add, h => by simp only [AV.sub]; cases Nat.beq id i <;> trivial
  | .bsl id off add l c, h => by simp only [AV.sub]; cases Nat.beq id i <;> trivial
  | .agg cs, h => by simp only [AV.wf, AV.sub] at h ⊢; exact wfL_sub cs h
  | .tup vs, h => by simp only [AV.wf, AV.sub] at h ⊢; exact wfL_sub vs h
  | .fn f x y, h => by simp only [AV.wf, AV.sub] at h ⊢; exact ⟨wfL_sub x h.1, wfL_sub y h.2⟩
  | .iface t v, h => by simp only [AV.wf, AV.sub] at h ⊢; exact AV.sub_wf v h
theorem wfL_sub {i r : Nat} : ∀ vs : List AV, wfL vs → wfL (subL i r vs)
  | [], _ => trivial
  | v :: vs, h => ⟨AV.sub_wf v h.1, wfL_sub vs h.2⟩
end

mutual
theorem sub_closed {i r : Nat} : ∀ v : AV, v.bd 0 = true → v.sub i r = v
  | .int .., _ | .bool .., _ | .str .., _ | .ptr .., _ | .nilp, _ | .sl .., _ | .map .., _ | .chan .., _ | .nilf, _ | .nili, _ | .run .., _ => rfl
  | .bptr id off add, h => by simp [AV.bd] at h
  | .bsl id off add l c, h => by simp [AV.bd] at h
  | .agg cs, h => by simp only [AV.bd] at h; simp only [AV.sub, subL_closed cs h]
  | .tup vs, h => by simp only [AV.bd] at h; simp only [AV.sub, subL_closed vs h]
  | .fn f x y, h => by simp only [AV.bd, Bool.and_eq_true] at h; simp only [AV.sub, subL_closed x h.1, subL_closed y h.2]
  | .iface t v, h => by simp only [AV.bd] at h; simp only [AV.sub, sub_closed v h]
theorem subL_closed {i r : Nat} : ∀ vs : List AV, bdL 0 vs = true → subL i r vs = vs
  | [], _ => rfl
  | v :: vs, h => by simp only [bdL, Bool.and_eq_true] at h; simp only [subL, sub_closed v h.1, subL_closed vs h.2]
end

theorem ofCell_val {β : Nat → Nat} {v : Value} {a : AV} (h : ofCell v = some a) : a.val β = v ∧ a.bd 0 = true := by
  unfold ofCell at h
  split at h <;> cases h <;> exact ⟨rfl, rfl⟩
theorem ofCell_wf {v : Value} {a : AV} (h : ofCell v = some a) : a.wf := by
  unfold ofCell at h
  split at h <;> cases h <;> trivial
theorem ofCells_wf : ∀ {vs : List Value} {as1 : List AV}, ofCells vs = some as1 → wfL as1
  | [], as1, h => by cases h; trivial
  | v :: vs, as1, h => by
    simp only [ofCells] at h
    split at h
    · rename_i a ha
      split at h
      · rename_i bs hb
        cases h
        exact ⟨ofCell_wf ha, ofCells_wf hb⟩
      · cases h
    · cases h
theorem ofCell_norun {v : Value} {a : AV} (h : ofCell v = some a) : ∀ k n xs, a ≠ .run k n xs := by
  unfold ofCell at h
  split at h <;> cases h <;> intro k n xs e <;> cases e
theorem ofCells_val {β : Nat → Nat} : ∀ {vs : List Value} {as1 : List AV}, ofCells vs = some as1 → valsL β as1 = vs ∧ cellsL β as1 = vs ∧ bdL 0 as1 = true
  | [], as1, h => by cases h; exact ⟨rfl, rfl, rfl⟩
  | v :: vs, as1, h => by
    simp only [ofCells] at h
    split at h
    · rename_i a ha
      split at h
      · rename_i bs hb
        cases h
        obtain ⟨h1, h2, h3⟩ := ofCells_val (β := β) hb
        obtain ⟨h4, h5⟩ := ofCell_val (β := β) ha
        refine ⟨by simp only [valsL, h4, h1], ?_, by simp only [bdL, h5, h3]; rfl⟩
        rw [cellsL_cons _ _ (ofCell_norun ha), h4, h2]
      · cases h
    · cases h
theorem ofV_val {β : Nat → Nat} {v : Value} {a : AV} (h : ofV v = some a) : a.val β = v ∧ a.bd 0 = true := by
  unfold ofV at h
  split at h
  · rename_i cs
    split at h
    · rename_i as1 ha
      cases h
      obtain ⟨_, h2, h3⟩ := ofCells_val (β := β) ha
      exact ⟨by simp only [AV.val, h2], h3⟩
    · cases h
  · rename_i f first cap
    split at h
    · rename_i as1 ha
      split at h
      · rename_i bs hb
        cases h
        obtain ⟨h1, _, h3⟩ := ofCells_val (β := β) ha
        obtain ⟨h4, _, h5⟩ := ofCells_val (β := β) hb
        exact ⟨by simp only [AV.val, h1, h4], by simp only [AV.bd, h3, h5]; rfl⟩
      · cases h
    · cases h
  · exact ofCell_val h

theorem ofV_wf {v : Value} {a : AV} (h : ofV v = some a) : a.wf := by
  unfold ofV at h
  split at h
  · split at h
    · rename_i as1 ha; cases h; exact ofCells_wf ha
    · cases h
  · split at h
    · rename_i as1 ha
      split at h
      · rename_i bs hb; cases h; exact ⟨ofCells_wf ha, ofCells_wf hb⟩
      · cases h
    · cases h
  · exact ofCell_wf h
theorem sc_cs {v : AV} (h : v.sc = true) : v.cs = [v] := by cases v <;> first | rfl | cases h
theorem sc_cells {β : Nat → Nat} {v : AV} (h : v.sc = true) : cellsL β [v] = [v.val β] := by cases v <;> first | rfl | cases h
theorem sc_scalar {β : Nat → Nat} {v : AV} (h : v.sc = true) : scalar (v.val β) = true := by cases v <;> first | rfl | cases h
theorem cells_val {β : Nat → Nat} (v : AV) : (v.val β).cells = (cellsL β v.cs).toArray := by
  cases v <;> simp [AV.val, AV.cs, Value.cells, cellsL]

/-! ### Fragments beside others -/
def Sub (h k : Hp) : Prop := ∀ c x, h c = some x → k c = some x

/-- A step over the fragment h, seen over the greater one. -/
structure Fr (h k h' k' : Hp) : Prop where
  sub : Sub h' k'
  rest : ∀ c x, h c = none → k c = some x → k' c = some x ∧ h' c = none
theorem Fr.refl {h k : Hp} (hs : Sub h k) : Fr h k h k := ⟨hs, fun c x h1 h2 => ⟨h2, h1⟩⟩
theorem Fr.trans {h k h1 k1 h2 k2 : Hp} (a : Fr h k h1 k1) (b : Fr h1 k1 h2 k2) : Fr h k h2 k2 :=
  ⟨b.sub, fun c x hc kc => let ⟨e1, e2⟩ := a.rest c x hc kc; b.rest c x e2 e1⟩
theorem Fr.set {h k : Hp} (hs : Sub h k) {b : Nat} {x y : Bool × Obj} (hb : h b = some x) : Fr h k (h.set b y) (k.set b y) :=
  ⟨fun c z hc => by
    unfold Hp.set at hc ⊢
    split
    · rename_i e; rw [if_pos e] at hc; exact hc
    · rename_i e; rw [if_neg e] at hc; exact hs c z hc,
   fun c z hc kc => by
    have hn : c ≠ b := fun e => by rw [e, hb] at hc; cases hc
    exact ⟨by rw [Hp.set_ne k y hn]; exact kc, by rw [Hp.set_ne h y hn]; exact hc⟩⟩
theorem Fr.new {h k : Hp} (hs : Sub h k) {b : Nat} {y : Bool × Obj} (hb : k b = none) : Fr h k (h.set b y) (k.set b y) :=
  ⟨fun c z hc => by
    unfold Hp.set at hc ⊢
    split
    · rename_i e; rw [if_pos e] at hc; exact hc
    · rename_i e; rw [if_neg e] at hc; exact hs c z hc,
   fun c z hc kc => by
    have hn : c ≠ b := fun e => by rw [e, hb] at kc; cases kc
    exact ⟨by rw [Hp.set_ne k y hn]; exact kc, by rw [Hp.set_ne h y hn]; exact hc⟩⟩
theorem Sub.none {h k : Hp} (hs : Sub h k) {c : Nat} (hk : k c = none) : h c = none := by
  cases hh : h c with
  | none => rfl
  | some x => rw [hs c x hh] at hk; cases hk

theorem wp_frame {α : Type} {P : Program} (s : Sem α) : ∀ {h k : Hp} {Q : α → Hp → Prop} {E : Halt → Hp → Prop}, Sub h k → wp P s h Q E →
    wp P s k (fun a k' => ∃ h', Q a h' ∧ Fr h k h' k') (fun e k' => ∃ h', E e h' ∧ Fr h k h' k') := by
  induction s with
  | pure a => intro h k Q E hs hw; exact ⟨h, hw, Fr.refl hs⟩
  | load m a kk ih =>
    intro h k Q E hs hw
    obtain ⟨v, p, c, e, f, h1, h2, h3, h4, h5⟩ := hw
    exact ⟨v, p, c, e, f, hs _ _ h1, h2, h3, h4, ih v hs h5⟩
  | store m a v kk ih =>
    intro h k Q E hs hw
    obtain ⟨h0, c, e, lo, hi, h1, h2, h3, h4, h5⟩ := hw
    have hf := Fr.set hs h1 (y := (true, .cells (c.setIfInBounds a.off v) e (lo, hi)))
    exact ⟨h0, c, e, lo, hi, hs _ _ h1, h2, h3, h4, wp_mono _ (fun _ _ ⟨h', q, r⟩ => ⟨h', q, hf.trans r⟩) (fun _ _ ⟨h', q, r⟩ => ⟨h', q, hf.trans r⟩) (ih hf.sub h5)⟩
  | new o kk ih =>
    intro h k Q E hs hw
    intro r hr
    have hf := Fr.new hs hr (y := (true, o))
    exact wp_mono _ (fun _ _ ⟨h', q, r⟩ => ⟨h', q, hf.trans r⟩) (fun _ _ ⟨h', q, r⟩ => ⟨h', q, hf.trans r⟩) (ih r hf.sub (hw r (hs.none hr)))
  | shape r kk ih => intro h k Q E hs hw; obtain ⟨p, o, h1, h2⟩ := hw; exact ⟨p, o, hs _ _ h1, ih _ hs h2⟩
  | freeze a n kk ih =>
    intro h k Q E hs hw
    obtain ⟨c, e, lo, hi, h1, h2, h3⟩ := hw
    have hf := Fr.set hs h1 (y := (true, .cells c e (if lo == hi then (a.off, a.off + n) else (min lo a.off, max hi (a.off + n)))))
    exact ⟨c, e, lo, hi, hs _ _ h1, h2, wp_mono _ (fun _ _ ⟨h', q, r⟩ => ⟨h', q, hf.trans r⟩) (fun _ _ ⟨h', q, r⟩ => ⟨h', q, hf.trans r⟩) (ih hf.sub h3)⟩
  | frozen a kk ih => intro h k Q E hs hw; obtain ⟨p, c, e, lo, hi, h1, h2⟩ := hw; exact ⟨p, c, e, lo, hi, hs _ _ h1, ih _ hs h2⟩
  | getObj r kk ih => intro h k Q E hs hw; obtain ⟨p, o, h1, h2, h3⟩ := hw; exact ⟨p, o, hs _ _ h1, h2, ih _ hs h3⟩
  | setObj r o kk ih =>
    intro h k Q E hs hw
    obtain ⟨o', h1, h2, h3, h4⟩ := hw
    have hf := Fr.set hs h1 (y := (true, o))
    exact ⟨o', hs _ _ h1, h2, h3, wp_mono _ (fun _ _ ⟨h', q, r⟩ => ⟨h', q, hf.trans r⟩) (fun _ _ ⟨h', q, r⟩ => ⟨h', q, hf.trans r⟩) (ih hf.sub h4)⟩
  | choose q kk ih => intro h k Q E hs hw; exact ⟨fun hf => ih _ hs (hw.1 hf), fun hf n => ih _ hs (hw.2 hf n)⟩
  | sys c kk ih => intro h k Q E hs hw; exact hw.elim
  | program kk ih => intro h k Q E hs hw; exact ih _ hs hw
  | mark m kk ih => intro h k Q E hs hw; exact ⟨hw.1, ih hs hw.2⟩
  | halt e => intro h k Q E hs hw; exact ⟨h, hw, Fr.refl hs⟩

/-- What is beside, behind a step. -/
def Hp.beside (h k h' : Hp) : Hp := fun c => match h' c with
  | some x => some x
  | none => match h c with
    | some _ => none
    | none => k c

theorem Did.frame {h h' k : Hp} {W W' : World} (hs : Sub h k) (hk : Sees W k) (d : Did h h' W W') : Did k (h.beside k h') W W' ∧ Fr h k h' (h.beside k h') := by
  have hsub : Sub h' (h.beside k h') := fun c x hc => by simp only [Hp.beside, hc]
  have hnew : ∀ c x, h c = none → k c = some x → h' c = none := by
    intro c x hc hkc
    cases hh : h' c with
    | none => rfl
    | some y =>
      rcases d.grow c y.1 y.2 hh with ⟨o', h1⟩ | ⟨_, h2, _⟩
      · rw [hc] at h1; cases h1
      · have := hk.lt (show k c = some (x.1, x.2) from hkc); omega
  refine ⟨⟨d.os, d.output, d.tape, d.size, ?_, ?_, ?_, ?_⟩, hsub, fun c x hc hkc => ⟨by simp only [Hp.beside, hnew c x hc hkc, hc, hkc], hnew c x hc hkc⟩⟩
  · intro c hc hn
    refine d.keep c hc fun o ho => hn o (hs _ _ ho)
  · intro c p o hc
    unfold Hp.beside at hc
    cases hh : h' c with
    | some y =>
      rw [hh] at hc; cases hc
      rcases d.grow c p o hh with ⟨o', h1⟩ | ⟨h1, h2, h3⟩
      · exact .inl ⟨o', hs _ _ h1⟩
      · refine .inr ⟨?_, h2, h3⟩
        cases hkc : k c with
        | none => rfl
        | some y => have := hk.lt (show k c = some (y.1, y.2) from hkc); omega
    | none =>
      rw [hh] at hc
      cases hhc : h c with
      | some y => simp only [hhc] at hc; cases hc
      | none => simp only [hhc] at hc; exact .inl ⟨o, hc⟩
  · intro c p o hc
    unfold Hp.beside
    cases hhc : h c with
    | some y =>
      have := hs c y hhc; rw [hc] at this; cases this
      obtain ⟨o', h1⟩ := d.hold c p o hhc
      exact ⟨o', by rw [h1]⟩
    | none => exact ⟨o, by rw [hnew c _ hhc hc]; exact hc⟩
  · intro c p o hc
    unfold Hp.beside at hc
    cases hh : h' c with
    | some y => rw [hh] at hc; cases hc; exact d.sees c p o hh
    | none =>
      rw [hh] at hc
      cases hhc : h c with
      | some y => simp only [hhc] at hc; cases hc
      | none =>
        simp only [hhc] at hc
        rw [d.keep c (hk.lt hc) (fun o ho => by rw [hhc] at ho; cases ho)]
        exact hk c p o hc

theorem EvsOK.sub {h k : Hp} (hs : Sub h k) {es : Array Event} (he : EvsOK h es) : EvsOK k es := by
  intro e h1
  have := he e h1
  unfold EvOK at *
  split at this <;> rename_i hl
  · obtain ⟨p, o, h2, h3⟩ := this; exact ⟨p, o, hs _ _ h2, h3⟩
  · obtain ⟨p, o, h2, h3⟩ := this; exact ⟨p, o, hs _ _ h2, h3⟩
  · exact this
  · exact this

theorem Run.frame {P : Program} {main : Bool} {Stop : Goroutine → Hp → Prop} {g : Goroutine} {h k : Hp} (hr : Run P main Stop g h) (hs : Sub h k) :
    Run P main (fun g' k' => ∃ h', Stop g' h' ∧ Fr h k h' k') g k := by
  induction hr generalizing k with
  | stop hst => exact .stop ⟨_, hst, Fr.refl hs⟩
  | @step g h K hg hm hk ih =>
    refine .step (fun g' k' => ∃ h', K g' h' ∧ Fr h k h' k') hg (fun W hW => ?_) ?_
    · obtain ⟨g', W', es, h', e1, d, e2, hK⟩ := hm W (fun b p o hb => hW b p o (hs _ _ hb))
      obtain ⟨d', f'⟩ := d.frame hs hW
      exact ⟨g', W', es, _, e1, d', e2.sub f'.sub, h', hK, f'⟩
    · rintro g' k' ⟨h', hK, f'⟩
      refine Run.bind (ih g' h' hK f'.sub) ?_
      rintro g2 k2 ⟨h2, q, f2⟩
      exact .stop ⟨h2, q, f'.trans f2⟩

theorem Leaving.sub {P : Program} {fr : Frame} {h k : Hp} {e : End} (hs : Sub h k) (hl : Leaving P fr h e) : Leaving P fr k e := by
  cases e with
  | ret v => obtain ⟨h1, h2, h3, fn, h4, h5⟩ := hl; exact ⟨h1, h2, h3, fn, h4, fun k' hk => h5 k' fun c x hc => hk c x (hs c x hc)⟩
  | panic c => exact hl

theorem CallsL.frame {P : Program} {main : Bool} {f : FuncId} {args : Array Value} {h k : Hp} {R : End → Hp → Prop} (hc : CallsL P main f args h R) (hs : Sub h k) :
    CallsL P main f args k (fun e k' => ∃ h', R e h' ∧ Fr h k h' k') := by
  intro κ Stop cs hκ hk
  have := hc κ (fun g h' => ∃ e fr, g = G fr cs ∧ R e h' ∧ Leaving P fr h' e ∧ fr.fn = f ∧ fr.kind = κ) cs hκ (fun e fr h' h1 h2 h3 h4 => .stop ⟨e, fr, rfl, h1, h2, h3, h4⟩)
  refine Run.bind (this.frame hs) ?_
  rintro g k' ⟨h', ⟨e, fr, rfl, h1, h2, h3, h4⟩, f'⟩
  exact hk e fr k' ⟨h', h1, f'⟩ (h2.sub f'.sub) h3 h4
end Go.Proofs.YtfiephhdkloaeaaGreat.Ch
end
