/- The executor's word on one operation holds of the machine. -/
import Derived.Test.YtfiephhdkloaeaaGreatA1
import Derived.Orders
import Derived.Laws.Sem
section
set_option linter.unusedVariables false
namespace Go.Proofs.YtfiephhdkloaeaaGreat.Ch
open Go Go.Conc

/-! ### The table of types -/
def SizeIs (P : Program) (t sz : Nat) : Prop := ∃ i, P.info? t = some i ∧ i.size = sz
def aggD : TypeDesc → Bool
  | .struct _ | .array _ _ => true
  | _ => false
def DescOK (P : Program) (d : TypeDesc) : TD → Prop
  | .int k => d = .int k
  | .bool => d = .bool
  | .str => d = .string
  | .slice e sz => d = .slice e ∧ SizeIs P e sz
  | .array n e sz => d = .array n e ∧ SizeIs P e sz
  | .struct fs => ∃ F : Array Field, d = .struct F ∧ F.size = fs.length ∧ ∀ (f off ft sz : Nat), fs[f]? = some (off, ft, sz) → ∃ x : Field, F[f]? = some x ∧ x.offset = off ∧ x.type = ft ∧ SizeIs P ft sz
  | .ptr => ∃ e, d = .pointer e
  | .iface => ∃ ms, d = .interface ms
  | .other => True
structure TIok (P : Program) (t : Nat) (i : TI) : Prop where
  size : SizeIs P t i.size
  zero : ∃ inf z, P.info? t = some inf ∧ inf.zero = some z ∧ z.cells = (cellsL id i.zero).toArray ∧ bdL 0 i.zero = true ∧ wfL i.zero
  desc : ∃ d, P.underlying t = some d ∧ aggD d = i.agg ∧ DescOK P d i.d
def BytesOK (P : Program) (t sz : Nat) : Prop := ∃ inf, P.info? t = some inf ∧ inf.bytes ≤ 32 * sz + 32 ∧ ∃ z, inf.zero = some z ∧ z.cells.size = sz
def GoFn (P : Program) (g : FuncId) : Prop := ∃ fn, P.funcs[g]? = some fn ∧ (fn.name == "runtime.NumGoroutine") = false ∧ fn.body.isNone = false
structure TabOK (P : Program) (T : Tab) : Prop where
  mixed : P.follows .mixedOrders = true
  ty : ∀ t i, T.ty t = some i → TIok P t i
  bytes : ∀ t i, T.ty t = some i → BytesOK P t i.size
  go : ∀ g, T.go g = true → GoFn P g

/-! ### What is held of a frame and its fragment -/
def RelE (β : Nat → Nat) (n : Nat) (e : Env) (a : Act) : Prop := ∀ t v, lk e t = some v → a.tmps[t]? = some (v.val β) ∧ v.bd n = true ∧ v.wf
structure RelB (β : Nat → Nat) (n : Nat) (b : Bx) (h H : Hp) : Prop where
  sub : Sub h H
  box : ∀ i T cs, lkB b i = some (T, cs) → i < n ∧ (bdL n cs = true ∧ wfL cs) ∧ H (β i) = some (true, .cells (cellsL β cs).toArray T (0, 0)) ∧ h (β i) = none
  inj : ∀ i j x y, lkB b i = some x → lkB b j = some y → β i = β j → i = j

section
variable {P : Program} {main : Bool} {T : Tab} {β : Nat → Nat} {n : Nat} {e : Env} {b : Bx} {h H : Hp} {a : Act}

theorem RelE.ev (hE : RelE β n e a) {x : Operand} {v : AV} (hx : ev e x = some v) : a.eval x = v.val β ∧ v.bd n = true ∧ v.wf := by
  cases x with
  | tmp t =>
    obtain ⟨h1, h2⟩ := hE t v hx
    refine ⟨?_, h2⟩
    simp only [Act.eval, Array.getD_eq_getD_getElem?, h1, Option.getD_some]
  | const c => obtain ⟨h1, h2⟩ := ofV_val (β := β) hx; exact ⟨h1.symm, AV.bd_mono (Nat.zero_le _) _ h2, ofV_wf hx⟩
  | global g => cases hx; exact ⟨rfl, rfl, trivial⟩
  | func f => cases hx; exact ⟨rfl, rfl, trivial, trivial⟩

theorem RelE.evs (hE : RelE β n e a) : ∀ {xs : List Operand} {vs : List AV}, evs e xs = some vs → xs.map a.eval = valsL β vs ∧ bdL n vs = true ∧ wfL vs
  | [], vs, hx => by cases hx; exact ⟨rfl, rfl, trivial⟩
  | x :: xs, vs, hx => by
    simp only [Ch.evs] at hx
    split at hx
    · rename_i v hv
      split at hx
      · rename_i ws hw
        cases hx
        obtain ⟨h1, h2, h5⟩ := hE.ev hv
        obtain ⟨h3, h4, h6⟩ := hE.evs hw
        exact ⟨by simp only [List.map_cons, valsL, h1, h3], by simp only [bdL, h2, h4]; rfl, h5, h6⟩
      · cases hx
    · cases hx

theorem val_of_closed {v : AV} (hv : v.bd 0 = true) (β β' : Nat → Nat) : v.val β = v.val β' := AV.val_congr (n := 0) (fun i hi => absurd hi (Nat.not_lt_zero _)) v hv
theorem valsL_of_closed {v : List AV} (hv : bdL 0 v = true) (β β' : Nat → Nat) : valsL β v = valsL β' v := valsL_congr (n := 0) (fun i hi => absurd hi (Nat.not_lt_zero _)) v hv
theorem cellsL_of_closed {v : List AV} (hv : bdL 0 v = true) (β β' : Nat → Nat) : cellsL β v = cellsL β' v := cellsL_congr (n := 0) (fun i hi => absurd hi (Nat.not_lt_zero _)) v hv

theorem lk_sub {e : Env} {i r t : Nat} {v : AV} (hl : lk (subE i r e) t = some v) : ∃ w, lk e t = some w ∧ v = w.sub i r := by
  induction e with
  | nil => cases hl
  | cons x e ih =>
    obtain ⟨d, w⟩ := x
    simp only [subE, lk] at hl ⊢
    cases hd : Nat.beq d t <;> simp only [hd, cond_true, cond_false] at hl ⊢
    · exact ih hl
    · cases hl; exact ⟨w, rfl, rfl⟩

theorem RelE.sub (hE : RelE β n e a) (i : Nat) : RelE β n (subE i (β i) e) a := by
  intro t v hl
  obtain ⟨w, hw, rfl⟩ := lk_sub hl
  obtain ⟨h1, h2, h3⟩ := hE t w hw
  exact ⟨by rw [AV.sub_val]; exact h1, AV.sub_bd _ h2, AV.sub_wf _ h3⟩

theorem lkB_sub {b : Bx} {i r j : Nat} {x : TypeId × List AV} (hl : lkB (subB i r b) j = some x) : ∃ cs, lkB b j = some (x.1, cs) ∧ x.2 = subL i r cs ∧ j ≠ i := by
  induction b with
  | nil => cases hl
  | cons y b ih =>
    obtain ⟨d, t, c⟩ := y
    simp only [subB] at hl
    cases hd : Nat.beq d i <;> simp only [hd, cond_true, cond_false] at hl
    · simp only [lkB] at hl ⊢
      cases hj : Nat.beq d j <;> simp only [hj, cond_true, cond_false] at hl ⊢
      · exact ih hl
      · cases hl
        refine ⟨c, rfl, rfl, ?_⟩
        have := Nat.eq_of_beq_eq_true hj
        subst this
        exact Nat.ne_of_beq_eq_false hd
    · obtain ⟨cs, h1, h2, h3⟩ := ih hl
      have hdi := Nat.eq_of_beq_eq_true hd
      subst hdi
      refine ⟨cs, ?_, h2, h3⟩
      simp only [lkB]
      have : Nat.beq d j = false := by
        cases hb : Nat.beq d j with
        | false => rfl
        | true => exact absurd (Nat.eq_of_beq_eq_true hb).symm h3
      simp only [this, cond_false]; exact h1

/-- A box is laid bare: it joins the fragment. -/
theorem RelB.reveal (hB : RelB β n b h H) {i : Nat} {Ty : TypeId} {cs : List AV} (hi : lkB b i = some (Ty, cs)) (hc : bdL 0 cs = true) :
    RelB β n (subB i (β i) b) (h.set (β i) (true, .cells (cellsL id cs).toArray Ty (0, 0))) H := by
  obtain ⟨h1, h2, h3, h4⟩ := hB.box _ _ _ hi
  refine ⟨?_, ?_, ?_⟩
  · intro c x hx
    unfold Hp.set at hx
    split at hx
    · rename_i ec; rw [ec]; cases hx
      rw [cellsL_of_closed hc id β]; exact h3
    · exact hB.sub c x hx
  · intro j T' ds hj
    obtain ⟨cs', h5, h6, h7⟩ := lkB_sub hj
    obtain ⟨k1, k2, k3, k4⟩ := hB.box _ _ _ h5
    simp only at h6
    subst h6
    refine ⟨k1, ⟨bdL_sub _ k2.1, wfL_sub _ k2.2⟩, by rw [cellsL_sub]; exact k3, ?_⟩
    have : β j ≠ β i := fun e1 => h7 (hB.inj _ _ _ _ h5 hi e1)
    rw [Hp.set_ne _ _ this]; exact k4
  · intro j j' x y hj hj' e1
    obtain ⟨_, h5, _, _⟩ := lkB_sub hj
    obtain ⟨_, h6, _, _⟩ := lkB_sub hj'
    exact hB.inj _ _ _ _ h5 h6 e1

theorem ev_sub {e : Env} {x : Operand} {i r : Nat} {v : AV} (hx : ev e x = some v) : ev (subE i r e) x = some (v.sub i r) := by
  cases x with
  | tmp t =>
    simp only [ev] at hx ⊢
    induction e with
    | nil => cases hx
    | cons y e ih =>
      obtain ⟨d, w⟩ := y
      simp only [subE, lk] at hx ⊢
      cases hd : Nat.beq d t <;> simp only [hd, cond_true, cond_false] at hx ⊢
      · exact ih hx
      · cases hx; rfl
  | const c => simp only [ev] at hx ⊢; rw [hx, sub_closed _ (ofV_val (β := id) hx).2]
  | global g => cases hx; rfl
  | func f => cases hx; rfl
theorem evs_sub {e : Env} {i r : Nat} : ∀ {xs : List Operand} {vs : List AV}, evs e xs = some vs → evs (subE i r e) xs = some (subL i r vs)
  | [], vs, hx => by cases hx; rfl
  | x :: xs, vs, hx => by
    simp only [Ch.evs] at hx ⊢
    split at hx
    · rename_i v hv
      split at hx
      · rename_i ws hw
        cases hx
        rw [ev_sub hv, evs_sub hw]; rfl
      · cases hx
    · cases hx

/-- What the pending loads look at. -/
def PdOK (β : Nat → Nat) (b : Bx) (h : Hp) : List AV → List (Nat × Obj) → Prop
  | [], L => L = []
  | .ptr a :: r, L => ∃ p o L', h a.block = some (p, o) ∧ L = (a.block, o) :: L' ∧ PdOK β b h r L'
  | .bptr id _ _ :: r, L => ∃ T cs L', lkB b id = some (T, cs) ∧ L = (β id, .cells (cellsL β cs).toArray T (0, 0)) :: L' ∧ PdOK β b h r L'
  | _ :: _, _ => False

theorem lkB_subB {b : Bx} {i r j : Nat} {T : TypeId} {cs : List AV} (hl : lkB b j = some (T, cs)) (hn : j ≠ i) : lkB (subB i r b) j = some (T, subL i r cs) := by
  induction b with
  | nil => cases hl
  | cons y b ih =>
    obtain ⟨d, t, c⟩ := y
    simp only [lkB] at hl
    simp only [subB]
    cases hj : Nat.beq d j <;> simp only [hj, cond_true, cond_false] at hl
    · cases hd : Nat.beq d i <;> simp only [cond_true, cond_false]
      · simp only [lkB, hj, cond_false]; exact ih hl
      · exact ih hl
    · cases hl
      have := Nat.eq_of_beq_eq_true hj
      subst this
      have hd : Nat.beq d i = false := by
        cases hb : Nat.beq d i with
        | false => rfl
        | true => exact absurd (Nat.eq_of_beq_eq_true hb) hn
      simp only [hd, cond_false, lkB, Nat.beq_refl, cond_true]

theorem PdOK.reveal (hB : RelB β n b h H) {i : Nat} {Ty : TypeId} {cs : List AV} (hi : lkB b i = some (Ty, cs)) (hc : bdL 0 cs = true) : ∀ {pd : List AV} {L : List (Nat × Obj)},
    PdOK β b h pd L → PdOK β (subB i (β i) b) (h.set (β i) (true, .cells (cellsL id cs).toArray Ty (0, 0))) (subL i (β i) pd) L
  | [], L, hp => hp
  | v :: pd, L, hp => by
    cases v with
    | ptr ad =>
      obtain ⟨p, o, L', h1, h2, h3⟩ := hp
      refine ⟨p, o, L', ?_, h2, PdOK.reveal hB hi hc h3⟩
      have : ad.block ≠ β i := fun e => by rw [e, (hB.box _ _ _ hi).2.2.2] at h1; cases h1
      rw [Hp.set_ne _ _ this]; exact h1
    | bptr id of ad =>
      obtain ⟨T, ds, L', h1, h2, h3⟩ := hp
      simp only [subL, AV.sub]
      cases hd : Nat.beq id i with
      | true =>
        have := Nat.eq_of_beq_eq_true hd
        subst this
        rw [hi] at h1; cases h1
        simp only [cond_true]
        refine ⟨true, _, L', Hp.set_same _ _ _, ?_, PdOK.reveal hB hi hc h3⟩
        rw [cellsL_of_closed hc _root_.id β]; exact h2
      | false =>
        simp only [cond_false]
        have hn : id ≠ i := Nat.ne_of_beq_eq_false hd
        refine ⟨T, subL i (β i) ds, L', lkB_subB h1 hn, ?_, PdOK.reveal hB hi hc h3⟩
        rw [cellsL_sub]; exact h2
    | _ => exact hp.elim

theorem PdOK.held (hB : RelB β n b h H) : ∀ {pd : List AV} {L : List (Nat × Obj)}, PdOK β b h pd L → ∀ x ∈ L, ∃ p, H x.1 = some (p, x.2)
  | [], L, hp, x, hx => by cases hp; cases hx
  | v :: pd, L, hp, x, hx => by
    cases v with
    | ptr ad =>
      obtain ⟨p, o, L', h1, h2, h3⟩ := hp
      subst h2
      rcases List.mem_cons.1 hx with rfl | hx
      · exact ⟨p, hB.sub _ _ h1⟩
      · exact PdOK.held hB h3 x hx
    | bptr id of ad =>
      obtain ⟨T, ds, L', h1, h2, h3⟩ := hp
      subst h2
      rcases List.mem_cons.1 hx with rfl | hx
      · exact ⟨true, (hB.box _ _ _ h1).2.2.1⟩
      · exact PdOK.held hB h3 x hx
    | _ => exact hp.elim

theorem PdOK.keep {b : Bx} {h h' : Hp} : ∀ {pd : List AV} {L : List (Nat × Obj)}, KeepH pd h h' → PdOK β b h pd L → PdOK β b h' pd L
  | [], L, hk, hp => hp
  | v :: pd, L, hk, hp => by
    cases v with
    | ptr ad =>
      obtain ⟨p, o, L', h1, h2, h3⟩ := hp
      exact ⟨p, o, L', hk.1.trans h1, h2, PdOK.keep hk.2 h3⟩
    | bptr id of ad =>
      obtain ⟨T, ds, L', h1, h2, h3⟩ := hp
      exact ⟨T, ds, L', h1, h2, PdOK.keep hk h3⟩
    | _ => exact hp.elim

theorem revL_sound : ∀ {l : List Nat} {e : Env} {b : Bx} {h : Hp} {vs pd : List AV} {K : Env → Bx → Hp → List AV → List AV → Prop}, RelE β n e a → RelB β n b h H → bdL n vs = true ∧ wfL vs → revL l e b h vs pd K →
    ∃ e' b' h' vs' pd', RelE β n e' a ∧ RelB β n b' h' H ∧ (bdL n vs' = true ∧ wfL vs') ∧ valsL β vs' = valsL β vs ∧ cellsL β vs' = cellsL β vs ∧ (∀ xs, evs e xs = some vs → evs e' xs = some vs') ∧
      (∀ L, PdOK β b h pd L → PdOK β b' h' pd' L) ∧ K e' b' h' vs' pd'
  | [], e, b, h, vs, pd, K, hE, hB, hv, hr => ⟨e, b, h, vs, pd, hE, hB, hv, rfl, rfl, fun _ h => h, fun _ h => h, hr⟩
  | i :: l, e, b, h, vs, pd, K, hE, hB, hv, hr => by
    simp only [revL] at hr
    cases hi : lkB b i with
    | none => simp only [hi] at hr; exact revL_sound hE hB hv hr
    | some x =>
      obtain ⟨Ty, cs⟩ := x
      simp only [hi] at hr
      cases hc : bdL 0 cs with
      | false => simp only [hc, cond_false] at hr
      | true =>
        simp only [hc, cond_true] at hr
        obtain ⟨_, _, _, h4⟩ := hB.box _ _ _ hi
        have := revL_sound (hE.sub i) (hB.reveal hi hc) ⟨bdL_sub _ hv.1, wfL_sub _ hv.2⟩ (hr (β i) h4)
        obtain ⟨e', b', h', vs', pd', q1, q2, q3, q4, q5, q7, q8, q6⟩ := this
        exact ⟨e', b', h', vs', pd', q1, q2, q3, q4.trans (valsL_sub _), q5.trans (cellsL_sub _), fun xs hx => q7 xs (evs_sub hx), fun L hL => q8 L (hL.reveal hB hi hc), q6⟩

theorem evs_mem {e : Env} : ∀ {xs : List Operand} {vs : List AV}, evs e xs = some vs → ∀ {x}, x ∈ xs → ∃ v, ev e x = some v ∧ v ∈ vs
  | [], vs, hx, x, hm => by cases hm
  | y :: xs, vs, hx, x, hm => by
    simp only [Ch.evs] at hx
    split at hx
    · rename_i v hv
      split at hx
      · rename_i ws hw
        cases hx
        rcases List.mem_cons.1 hm with rfl | hm
        · exact ⟨v, hv, List.mem_cons_self ..⟩
        · obtain ⟨w, h1, h2⟩ := evs_mem hw hm
          exact ⟨w, h1, List.mem_cons_of_mem _ h2⟩
      · cases hx
    · cases hx
theorem bdL_mem {k : Nat} : ∀ {vs : List AV} {v : AV}, bdL k vs = true → v ∈ vs → v.bd k = true
  | [], v, _, hm => by cases hm
  | w :: vs, v, hb, hm => by
    simp only [bdL, Bool.and_eq_true] at hb
    rcases List.mem_cons.1 hm with rfl | hm
    · exact hb.1
    · exact bdL_mem hb.2 hm

/-! ### What an operation comes to -/
def OpG (P : Program) (main : Bool) (o : Oper) (a : Act) (H : Hp) (Q : Value → Hp → Prop) : Prop :=
  wp P (execOp a.eval o) H (fun nx H' => (∃ v, nx = .value v ∧ Q v H') ∨ (nx = .skip ∧ Q undef H')) (fun _ _ => False) ∨
  ∃ g args, (∀ H0, wp P (execOp a.eval o) H0 (fun nx H' => nx = .enter g args ∧ H' = H0) (fun _ _ => False)) ∧ CallsL P main g args H (fun e H' => ∃ v, e = .ret v ∧ Q v H')

theorem OpG.mono {o : Oper} {Q Q' : Value → Hp → Prop} (hq : ∀ v H', Q v H' → Q' v H') (hg : OpG P main o a H Q) : OpG P main o a H Q' := by
  rcases hg with hg | ⟨g, args, h1, h2⟩
  · refine .inl (wp_mono _ ?_ (fun _ _ h => h) hg)
    rintro nx H' (⟨v, h1, h2⟩ | ⟨h1, h2⟩)
    · exact .inl ⟨v, h1, hq _ _ h2⟩
    · exact .inr ⟨h1, hq _ _ h2⟩
  · exact .inr ⟨g, args, h1, h2.mono fun e H' ⟨v, h3, h4⟩ => ⟨v, h3, hq _ _ h4⟩⟩

theorem OpG.run {Stop : Goroutine → Hp → Prop} {bf : Frame} {o : Oper} {ops : Array Oper} {i : Nat} {rest : List Nat} {k : List Item} {cs : List Frame} {Q : Value → Hp → Prop}
    (hg : OpG P main o a H Q) (ho : ops[i]? = some o) (hw : Region.wanted o (yielded ops a.tmps) = true) (hk : bf.kind ≠ .early)
    (hn : ∀ v H', Q v H' → Run P main Stop (G (bf.at (a.put o.dst v) (.inRegion ops rest :: k)) cs) H') :
    Run P main Stop (G (bf.at a (.inRegion ops (i :: rest) :: k)) cs) H := by
  refine Run.op ho hw hk ?_
  rcases hg with hg | ⟨g, args, h1, h2⟩
  · refine wp_mono _ ?_ (fun _ _ h => h.elim) hg
    rintro nx H' (⟨v, rfl, h2⟩ | ⟨rfl, h2⟩)
    · exact hn _ _ h2
    · exact hn _ _ h2
  · refine wp_mono _ ?_ (fun _ _ h => h.elim) (h1 H)
    rintro nx H' ⟨rfl, rfl⟩
    refine h2 .normal Stop _ (by simp) ?_
    rintro e fr H' ⟨v, rfl, hq⟩ hl hf hkind
    refine Run.return hl (.inl hkind) ?_
    have := Frame.finish_at bf a ops i rest k v
    rw [this, ho]
    exact hn _ _ hq

/-- The post of an operation, in the executor's words. -/
def PostK (P : Program) (a : Act) (β : Nat → Nat) (b : Bx) (h : Hp) (pd : List AV) (K : AV → Env → Nat → Bx → Hp → List AV → Prop) (v : Value) (H' : Hp) : Prop :=
  ∃ β' av e' n' b' h' pd', v = av.val β' ∧ (av.bd n' = true ∧ av.wf) ∧ RelE β' n' e' a ∧ RelB β' n' b' h' H' ∧ (∀ L, PdOK β b h pd L → PdOK β' b' h' pd' L) ∧ K av e' n' b' h' pd'

variable {o : Oper} {pd : List AV} {K : AV → Env → Nat → Bx → Hp → List AV → Prop}

def Held (F : List (Nat × Obj)) (H : Hp) : Prop := ∀ x ∈ F, ∃ p, H x.1 = some (p, x.2)
theorem Held.nil {H : Hp} : Held [] H := fun x hx => by cases hx

/-- An operation that leaves all as1 it is, and looks at no more than F. -/
def OpQ (P : Program) (o : Oper) (a : Act) (β : Nat → Nat) (n : Nat) (F : List (Nat × Obj)) (X : AV → Prop) : Prop :=
  ∃ av, (av.bd n = true ∧ av.wf) ∧ X av ∧ ∀ H', Held F H' → wp P (execOp a.eval o) H' (fun nx H'' => nx = .value (av.val β) ∧ H'' = H') (fun _ _ => False)

variable {X : AV → Prop} {F : List (Nat × Obj)}

theorem opPure {s : Sem Value} {av : AV} (hs : execOp a.eval o = (do pure (.value (← s)))) (hr : ∀ H', Held F H' → wp P s H' (fun v H'' => v = av.val β ∧ H'' = H') (fun _ _ => False)) (hb : av.bd n = true ∧ av.wf)
    (hK : X av) : OpQ P o a β n F X := by
  refine ⟨av, hb, hK, fun H' hF => ?_⟩
  rw [hs]
  refine wp_bind s _ (wp_mono s ?_ (fun _ _ h => h) (hr H' hF))
  rintro v H'' ⟨rfl, rfl⟩
  exact ⟨rfl, rfl⟩

theorem opValue {av : AV} {v : Value} (hs : execOp a.eval o = pure (.value v)) (hv : v = av.val β) (hb : av.bd n = true ∧ av.wf) (hK : X av) : OpQ P o a β n F X := by
  refine ⟨av, hb, hK, fun H' _ => ?_⟩
  rw [hs, hv]
  exact ⟨rfl, rfl⟩

theorem OpQ.toG (hq : OpQ P o a β n F (fun av => K av e n b h pd)) (hF : Held F H) (hE : RelE β n e a) (hB : RelB β n b h H) : OpG P main o a H (PostK P a β b h pd K) := by
  obtain ⟨av, h1, h2, h3⟩ := hq
  left
  refine wp_mono _ ?_ (fun _ _ h => h) (h3 H hF)
  rintro nx H' ⟨rfl, rfl⟩
  exact .inl ⟨_, rfl, β, av, e, n, b, h, pd, rfl, h1, hE, hB, fun _ h => h, h2⟩

/-- The heap part behind a step of the machine's own over h. -/
theorem RelB.fr (hB : RelB β n b h H) {h' H' : Hp} (f : Fr h H h' H') : RelB β n b h' H' :=
  ⟨f.sub, fun i Ty cs hi => let ⟨h1, h2, h3, h4⟩ := hB.box i Ty cs hi; let ⟨k1, k2⟩ := f.rest _ _ h4 h3; ⟨h1, h2, k1, k2⟩, hB.inj⟩

def plainOp : Op → Bool
  | .select .. => false
  | _ => true

theorem otherX {e : Env} (hE : RelE β n e a) (hB : RelB β n b h H) (hp : ∀ cs bl, o.op ≠ .select cs bl)
    (hv : (match evs e o.op.operands.toList with
      | some vs => revL (idsL vs) e b h vs pd (fun e b h vs pd => bif bdL 0 vs then OpX P (execOp (fun x => ((ev e x).getD .nilp).val id) o) h pd (fun r h' => K r e n b h' pd) else False)
      | none => False)) : OpG P main o a H (PostK P a β b h pd K) := by
  cases hx : evs e o.op.operands.toList with
  | none => simp only [hx] at hv
  | some vs =>
    simp only [hx] at hv
    obtain ⟨h1, h2⟩ := hE.evs hx
    obtain ⟨e', b', h', vs', pd', q1, q2, q3, q4, q5, q6, q8, q7⟩ := revL_sound hE hB h2 hv
    cases hc : bdL 0 vs' with
    | false => simp only [hc, cond_false] at q7
    | true =>
      simp only [hc, cond_true] at q7
      have hcong : execOp (fun x => ((ev e' x).getD .nilp).val id) o = execOp a.eval o := by
        refine execOp_congr o hp fun x hm => ?_
        obtain ⟨v, hv1, hv2⟩ := evs_mem (q6 _ hx) (Array.mem_def.1 hm)
        have := (q1.ev hv1).1
        simp only [hv1, Option.getD_some, this]
        exact val_of_closed (bdL_mem hc hv2) _ _
      left
      have hw := q7.out
      rw [hcong] at hw
      refine wp_mono _ ?_ (fun _ _ ⟨_, f, _⟩ => f) (wp_frame _ q2.sub hw)
      rintro nx H' ⟨h2, ⟨r, hr, hwf, hnx, hkp, hK⟩, f⟩
      rcases hnx with rfl | ⟨rfl, rfl⟩
      · exact .inl ⟨_, rfl, β, r, e', n, b', h2, pd', val_of_closed hr _ _, ⟨AV.bd_mono (Nat.zero_le _) _ hr, hwf⟩, q1, q2.fr f, fun L hL => (q8 L hL).keep hkp, hK⟩
      · exact .inr ⟨rfl, β, .tup [], e', n, b', h2, pd', rfl, ⟨rfl, trivial⟩, q1, q2.fr f, fun L hL => (q8 L hL).keep hkp, hK⟩
end
end Go.Proofs.YtfiephhdkloaeaaGreat.Ch
end

section
set_option linter.unusedVariables false
namespace Go.Proofs.YtfiephhdkloaeaaGreat.Ch
open Go Go.Conc
section
variable {P : Program} {main : Bool} {T : Tab} {β : Nat → Nat} {n : Nat} {e : Env} {b : Bx} {h H : Hp} {a : Act}

theorem wpB {α γ : Type} {s : Sem α} {f : α → Sem γ} {Q : γ → Hp → Prop} {E : Halt → Hp → Prop} (hw : wp P s H (fun a h' => wp P (f a) h' Q E) E) : wp P (s >>= f) H Q E := wp_bind s f hw
theorem wp_typeInfo {t : TypeId} {i : TypeInfo} {Q : TypeInfo → Hp → Prop} {E : Halt → Hp → Prop} (hi : P.info? t = some i) (hq : Q i H) : wp P (typeInfo t) H Q E := by
  show wp P (match P.info? t with | some i => pure i | none => stuck "no such type") H Q E
  rw [hi]; exact hq
theorem wp_underlying {t : TypeId} {d : TypeDesc} {Q : TypeDesc → Hp → Prop} {E : Halt → Hp → Prop} (hi : P.underlying t = some d) (hq : Q d H) : wp P (underlying t) H Q E := by
  show wp P (match P.underlying t with | some i => pure i | none => stuck "no such type") H Q E
  rw [hi]; exact hq
theorem wp_sizeOf {t sz : Nat} {Q : Nat → Hp → Prop} {E : Halt → Hp → Prop} (hi : SizeIs P t sz) (hq : Q sz H) : wp P (sizeOf t) H Q E := by
  obtain ⟨i, hi, rfl⟩ := hi
  exact wpB (wp_typeInfo hi hq)
theorem wp_isAgg {t : Nat} {d : TypeDesc} {Q : Bool → Hp → Prop} {E : Halt → Hp → Prop} (hi : P.underlying t = some d) (hq : Q (aggD d) H) : wp P (isAgg t) H Q E := by
  refine wpB (wp_underlying hi ?_)
  cases d <;> exact hq
theorem wp_load {ad : Addr} {v : Value} {Q : Value → Hp → Prop} {E : Halt → Hp → Prop} (hc : Cell H ad v) (hq : Q v H) : wp P (load ad) H Q E := by
  obtain ⟨p, c, e, f, h1, h2, h3⟩ := hc
  exact ⟨v, p, c, e, f, h1, h2, h3, by simp, hq⟩

theorem wp_loadCellsFrom {ad : Addr} : ∀ (m i : Nat) (acc : Array Value) (vs : List Value) {Q : Array Value → Hp → Prop} {E : Halt → Hp → Prop}, vs.length = m → (∀ j v, vs[j]? = some v → Cell H (ad.add (i + j)) v) →
    Q (acc ++ vs.toArray) H → wp P (loadCellsFrom ad i m acc) H Q E
  | 0, i, acc, vs, Q, E, hl, _, hq => by
    have : vs = [] := List.eq_nil_of_length_eq_zero hl
    subst this
    rw [show acc ++ ([] : List Value).toArray = acc by simp] at hq
    exact hq
  | m + 1, i, acc, vs, Q, E, hl, hc, hq => by
    cases vs with
    | nil => simp at hl
    | cons v vs =>
      refine wpB (wp_load (v := v) ?_ ?_)
      · exact hc 0 v rfl
      · refine wp_loadCellsFrom m (i + 1) (acc.push v) vs (by simpa using hl) (fun j w hj => ?_) ?_
        · have := hc (j + 1) w (by simpa using hj)
          rw [show i + 1 + j = i + (j + 1) from by omega]; exact this
        · simpa using hq

theorem wp_loadCells {ad : Addr} {vs : List Value} {m : Nat} {Q : Array Value → Hp → Prop} {E : Halt → Hp → Prop} (hl : vs.length = m) (hc : CellsAt H ad vs) (hq : Q vs.toArray H) : wp P (loadCells ad m) H Q E :=
  wp_loadCellsFrom m 0 #[] vs hl (fun j v hj => by rw [Nat.zero_add]; exact hc j v hj) (by simpa using hq)

/-- A variable is read whole. -/
theorem wp_loadVar (hT : TabOK P T) {t : Nat} {i : TI} (ht : T.ty t = some i) {ad : Addr} {v : Value} {Q : Value → Hp → Prop} {E : Halt → Hp → Prop}
    (hv : i.agg = true → ∃ vs : List Value, v = .agg vs.toArray ∧ vs.length = i.size ∧ CellsAt H ad vs) (hs : i.agg = false → Cell H ad v) (hq : Q v H) : wp P (loadVar t ad) H Q E := by
  obtain ⟨hz, _, d, hd, ha, _⟩ := hT.ty t i ht
  refine wpB (wp_isAgg hd ?_)
  rw [ha]
  cases hi : i.agg with
  | true =>
    obtain ⟨vs, rfl, hl, hc⟩ := hv hi
    exact wpB (wp_sizeOf hz (wpB (wp_loadCells hl hc hq)))
  | false => exact wp_load (hs hi) hq

/-! ### cells of boxes -/
theorem bdLc {cs : List AV} {v : AV} (h : bdL n (v :: cs) = true) : v.bd n = true ∧ bdL n cs = true := by simpa only [bdL, Bool.and_eq_true] using h

theorem isRun (v : AV) : (∃ k m xs, v = .run k m xs) ∨ (∀ k m xs, v ≠ .run k m xs) := by
  cases v <;> first | exact .inl ⟨_, _, _, rfl⟩ | exact .inr (fun _ _ _ h => by cases h)
theorem rdOne_cons {v : AV} (hr : ∀ k m xs, v ≠ .run k m xs) (rest : List AV) (off add : Nat) (K : AV → Prop) : rdOne (v :: rest) off add K = (match off with
    | o + 1 => rdOne rest o add K
    | 0 => match add with
      | 0 => K v
      | a + 1 => rdOne rest 0 a K) := by
  cases v <;> first | exact absurd rfl (hr _ _ _) | (cases off <;> cases add <;> rfl)
theorem wrOne_cons {v : AV} (hr : ∀ k m xs, v ≠ .run k m xs) (rest : List AV) (off add : Nat) (x : AV) (K : List AV → Prop) : wrOne (v :: rest) off add x K = (match off with
    | o + 1 => wrOne rest o add x (fun r => K (v :: r))
    | 0 => match add with
      | 0 => K (x :: rest)
      | a + 1 => wrOne rest 0 a x (fun r => K (v :: r))) := by
  cases v <;> first | exact absurd rfl (hr _ _ _) | (cases off <;> cases add <;> rfl)
theorem rdMany_cons {v : AV} (hr : ∀ k m xs, v ≠ .run k m xs) (rest : List AV) (off add n : Nat) (K : List AV → Prop) : rdMany (v :: rest) off add (n + 1) K = (match off with
    | o + 1 => rdMany rest o add (n + 1) K
    | 0 => match add with
      | 0 => rdMany rest 0 0 n (fun r => K (v :: r))
      | a + 1 => rdMany rest 0 a (n + 1) K) := by
  cases v <;> first | exact absurd rfl (hr _ _ _) | (cases off <;> cases add <;> rfl)
theorem wrMany_cons {v : AV} (hr : ∀ k m xs, v ≠ .run k m xs) (rest : List AV) (off add : Nat) (x : AV) (xs : List AV) (K : List AV → Prop) : wrMany (v :: rest) off add (x :: xs) K = (match off with
    | o + 1 => wrMany rest o add (x :: xs) (fun r => K (v :: r))
    | 0 => match add with
      | 0 => bif x.sc then wrMany rest 0 0 xs (fun r => K (x :: r)) else False
      | a + 1 => wrMany rest 0 a (x :: xs) (fun r => K (v :: r))) := by
  cases v <;> first | exact absurd rfl (hr _ _ _) | (cases off <;> cases add <;> rfl)
theorem wrMany_nil (cs : List AV) (off add : Nat) (K : List AV → Prop) : wrMany cs off add [] K = K cs := by
  cases cs with
  | nil => rfl
  | cons c cs => cases c <;> rfl

theorem ints_length (k : IntKind) (xs : List Int) : (ints k xs).length = xs.length := by simp [ints]

theorem widthL_len {β : Nat → Nat} : ∀ {vs : List AV}, wfL vs → (cellsL β vs).length = widthL vs
  | [], _ => rfl
  | v :: vs, h => by
    have := widthL_len (β := β) h.2
    rcases isRun v with ⟨k, m, xs, rfl⟩ | hn
    · have h1 := h.1
      simp only [AV.wf] at h1
      simp only [cellsL, widthL, List.length_append, ints_length, this, h1]
    · rw [cellsL_cons _ _ hn, List.length_cons, this]
      cases v <;> first | exact absurd rfl (hn _ _ _) | (simp only [widthL]; omega)

theorem rdOne_sound : ∀ (cs : List AV) (off add : Nat) (K : AV → Prop), bdL n cs = true → wfL cs → rdOne cs off add K →
    ∃ v, (cellsL β cs)[off + add]? = some (v.val β) ∧ (v.bd n = true ∧ v.wf) ∧ K v
  | [], off, add, K, _, _, hr => hr.elim
  | v :: rest, off, add, K, hb, hw, hr => by
    obtain ⟨hb1, hb2⟩ := bdLc hb
    obtain ⟨hw1, hw2⟩ := hw
    rcases isRun v with ⟨k, m, xs, rfl⟩ | hn
    · simp only [rdOne] at hr
      simp only [AV.wf] at hw1
      cases hc : Nat.ble m off with
      | true =>
        simp only [hc, cond_true] at hr
        have hle := Nat.le_of_ble_eq_true hc
        obtain ⟨v, h1, h2, h3⟩ := rdOne_sound rest (off - m) add K hb2 hw2 hr
        refine ⟨v, ?_, h2, h3⟩
        simp only [cellsL]
        rw [List.getElem?_append_right (by rw [ints_length]; omega), ints_length, hw1, show off + add - m = off - m + add from by omega]
        exact h1
      | false =>
        simp only [hc, cond_false] at hr
        refine ⟨.int k (xs.getD (off + add) 0), ?_, ⟨rfl, trivial⟩, hr.2⟩
        have hlt := hr.1
        simp only [cellsL]
        rw [List.getElem?_append_left (by rw [ints_length]; omega)]
        simp [ints, AV.val, List.getElem?_eq_getElem (show off + add < xs.length by omega)]
    · rw [rdOne_cons hn] at hr
      rw [cellsL_cons _ _ hn]
      cases off with
      | succ o =>
        obtain ⟨w, h1, h2, h3⟩ := rdOne_sound rest o add K hb2 hw2 hr
        exact ⟨w, by rw [show o + 1 + add = (o + add) + 1 from by omega, List.getElem?_cons_succ]; exact h1, h2, h3⟩
      | zero =>
        cases add with
        | zero => exact ⟨v, rfl, ⟨hb1, hw1⟩, hr⟩
        | succ d =>
          obtain ⟨w, h1, h2, h3⟩ := rdOne_sound rest 0 d K hb2 hw2 hr
          exact ⟨w, by rw [show 0 + (d + 1) = (0 + d) + 1 from by omega, List.getElem?_cons_succ]; exact h1, h2, h3⟩

theorem wrOne_sound {x : AV} (hx : x.sc = true) (hxb : x.bd n = true) (hxw : x.wf) : ∀ (cs : List AV) (off add : Nat) (K : List AV → Prop), bdL n cs = true → wfL cs → wrOne cs off add x K →
    off + add < (cellsL β cs).length ∧ ∃ r, cellsL β r = (cellsL β cs).set (off + add) (x.val β) ∧ (bdL n r = true ∧ wfL r) ∧ K r
  | [], off, add, K, _, _, hr => hr.elim
  | v :: rest, off, add, K, hb, hw, hr => by
    obtain ⟨hb1, hb2⟩ := bdLc hb
    obtain ⟨hw1, hw2⟩ := hw
    have hnx : ∀ k m xs, x ≠ .run k m xs := fun k m xs e => by rw [e] at hx; cases hx
    rcases isRun v with ⟨k, m, xs, rfl⟩ | hn
    · simp only [wrOne] at hr
      simp only [AV.wf] at hw1
      cases hc : Nat.ble m off with
      | true =>
        simp only [hc, cond_true] at hr
        have hle := Nat.le_of_ble_eq_true hc
        obtain ⟨h0, r, h1, h2, h3⟩ := wrOne_sound hx hxb hxw rest (off - m) add _ hb2 hw2 hr
        refine ⟨by simp only [cellsL, List.length_append, ints_length]; omega, .run k m xs :: r, ?_, ⟨?_, hw1, h2.2⟩, h3⟩
        · simp only [cellsL, h1]
          rw [List.set_append_right _ _ (by rw [ints_length]; omega), ints_length, hw1, show off + add - m = off - m + add from by omega]
        · simp only [bdL, h2.1]; rfl
      | false =>
        simp only [hc, cond_false] at hr
        cases x with
        | int k' y =>
          simp only at hr
          by_cases hk : k = k'
          · subst hk
            simp only [decide_true, cond_true] at hr
            obtain ⟨hlt, hK⟩ := hr
            refine ⟨by simp only [cellsL, List.length_append, ints_length]; omega, .run k m (xs.set (off + add) y) :: rest, ?_, ⟨?_, by simp only [AV.wf, List.length_set]; exact hw1, hw2⟩, hK⟩
            · simp only [cellsL, AV.val]
              rw [List.set_append_left _ _ (by rw [ints_length]; omega)]
              simp [ints, List.map_set]
            · simp only [bdL, hb2]; rfl
          · simp only [hk, decide_false, cond_false] at hr
        | _ => exact hr.elim
    · rw [wrOne_cons hn] at hr
      rw [cellsL_cons _ _ hn]
      cases off with
      | succ o =>
        obtain ⟨h0, r, h1, h2, h3⟩ := wrOne_sound hx hxb hxw rest o add _ hb2 hw2 hr
        refine ⟨by simp only [List.length_cons]; omega, v :: r, ?_, ⟨?_, hw1, h2.2⟩, h3⟩
        · rw [cellsL_cons _ _ hn, h1, show o + 1 + add = (o + add) + 1 from by omega, List.set_cons_succ]
        · simp only [bdL, hb1, h2.1]; rfl
      | zero =>
        cases add with
        | zero =>
          refine ⟨by simp, x :: rest, ?_, ⟨?_, hxw, hw2⟩, hr⟩
          · rw [cellsL_cons _ _ hnx]; rfl
          · simp only [bdL, hxb, hb2]; rfl
        | succ d =>
          obtain ⟨h0, r, h1, h2, h3⟩ := wrOne_sound hx hxb hxw rest 0 d _ hb2 hw2 hr
          refine ⟨by simp only [List.length_cons]; omega, v :: r, ?_, ⟨?_, hw1, h2.2⟩, h3⟩
          · rw [cellsL_cons _ _ hn, h1, show 0 + (d + 1) = (0 + d) + 1 from by omega, List.set_cons_succ]
          · simp only [bdL, hb1, h2.1]; rfl

theorem rdMany_sound : ∀ (cs : List AV) (off add m : Nat) (K : List AV → Prop), bdL n cs = true → wfL cs → rdMany cs off add m K →
    ∃ r, cellsL β r = ((cellsL β cs).drop (off + add)).take m ∧ (cellsL β r).length = m ∧ (bdL n r = true ∧ wfL r) ∧ K r := by
  intro cs
  induction cs with
  | nil =>
    intro off add m K _ _ hr
    cases m with
    | zero => exact ⟨[], by simp [cellsL], rfl, ⟨rfl, trivial⟩, hr⟩
    | succ m => exact hr.elim
  | cons v rest ih =>
    intro off add m K hb hw hr
    cases m with
    | zero => exact ⟨[], by simp [cellsL], rfl, ⟨rfl, trivial⟩, by simpa only [rdMany] using hr⟩
    | succ m =>
      obtain ⟨hb1, hb2⟩ := bdLc hb
      obtain ⟨hw1, hw2⟩ := hw
      rcases isRun v with ⟨k, l, xs, rfl⟩ | hn
      · simp only [rdMany] at hr
        simp only [AV.wf] at hw1
        cases hc : Nat.ble l off with
        | true =>
          simp only [hc, cond_true] at hr
          have hle := Nat.le_of_ble_eq_true hc
          obtain ⟨r, h1, h2, h3, h4⟩ := ih (off - l) add (m + 1) K hb2 hw2 hr
          refine ⟨r, ?_, h2, h3, h4⟩
          simp only [cellsL]
          rw [List.drop_append, ints_length, hw1, List.drop_eq_nil_of_le (by rw [ints_length]; omega), List.nil_append, show off + add - l = off - l + add from by omega]
          exact h1
        | false =>
          simp only [hc, cond_false] at hr
          cases h0 : (Nat.beq off 0 && Nat.ble l (m + 1)) with
          | true =>
            simp only [h0, cond_true] at hr
            simp only [Bool.and_eq_true] at h0
            have e0 := Nat.eq_of_beq_eq_true h0.1
            have e1 := Nat.le_of_ble_eq_true h0.2
            obtain ⟨rfl, hr⟩ := hr
            subst e0
            obtain ⟨r, h1, h2, h3, h4⟩ := ih 0 0 (m + 1 - l) _ hb2 hw2 hr
            refine ⟨.run k l xs :: r, ?_, ?_, ⟨?_, hw1, h3.2⟩, h4⟩
            · simp only [cellsL, h1, Nat.add_zero, List.drop_zero]
              rw [List.take_append, ints_length, hw1, List.take_of_length_le (l := ints k xs) (by rw [ints_length]; omega)]
            · simp only [cellsL, List.length_append, ints_length, h2]; omega
            · simp only [bdL, h3.1]; rfl
          | false =>
            simp only [h0, cond_false] at hr
            obtain ⟨hle, hr⟩ := hr
            refine ⟨[.run k (m + 1) ((xs.drop (off + add)).take (m + 1))], ?_, ?_, ⟨rfl, ?_, trivial⟩, hr⟩
            · simp only [cellsL, List.append_nil]
              rw [List.drop_append_of_le_length (by rw [ints_length]; omega), List.take_append_of_le_length (by rw [List.length_drop, ints_length]; omega)]
              simp [ints, List.map_take, List.map_drop]
            · simp only [cellsL, List.append_nil, ints_length, List.length_take, List.length_drop]; omega
            · simp only [AV.wf, List.length_take, List.length_drop]; omega
      · rw [rdMany_cons hn] at hr
        rw [cellsL_cons _ _ hn]
        cases off with
        | succ o =>
          obtain ⟨r, h1, h2, h3, h4⟩ := ih o add (m + 1) K hb2 hw2 hr
          exact ⟨r, by rw [h1, show o + 1 + add = (o + add) + 1 from by omega, List.drop_succ_cons], h2, h3, h4⟩
        | zero =>
          cases add with
          | zero =>
            obtain ⟨r, h1, h2, h3, h4⟩ := ih 0 0 m _ hb2 hw2 hr
            refine ⟨v :: r, ?_, ?_, ⟨?_, hw1, h3.2⟩, h4⟩
            · rw [cellsL_cons _ _ hn, h1]; simp
            · rw [cellsL_cons _ _ hn, List.length_cons, h2]
            · simp only [bdL, hb1, h3.1]; rfl
          | succ d =>
            obtain ⟨r, h1, h2, h3, h4⟩ := ih 0 d (m + 1) K hb2 hw2 hr
            exact ⟨r, by rw [h1, show 0 + (d + 1) = (0 + d) + 1 from by omega, List.drop_succ_cons], h2, h3, h4⟩

/-- A stretch of a list is laid anew. -/
def splice {α : Type} (l : List α) (p : Nat) (vs : List α) : List α := l.take p ++ vs ++ l.drop (p + vs.length)

theorem splice_nil {α : Type} (l : List α) (p : Nat) : splice l p [] = l := by simp [splice]
theorem splice_succ {α : Type} (x : α) (l : List α) (p : Nat) (vs : List α) : splice (x :: l) (p + 1) vs = x :: splice l p vs := by
  simp [splice, show p + 1 + vs.length = (p + vs.length) + 1 from by omega]
theorem splice_zero {α : Type} (x y : α) (l : List α) (vs : List α) : splice (x :: l) 0 (y :: vs) = y :: splice l 0 vs := by
  simp [splice]
theorem splice_right {α : Type} (l m : List α) (p : Nat) (vs : List α) (h : l.length ≤ p) : splice (l ++ m) p vs = l ++ splice m (p - l.length) vs := by
  simp only [splice]
  rw [List.take_append, List.drop_append, List.take_of_length_le h, List.drop_eq_nil_of_le (by omega), show p + vs.length - l.length = p - l.length + vs.length from by omega]
  simp
theorem splice_all {α : Type} (l m vs ws : List α) (h : l.length = vs.length) : splice (l ++ m) 0 (vs ++ ws) = vs ++ splice m 0 ws := by
  simp only [splice, List.take_zero, List.nil_append, List.length_append, Nat.zero_add]
  rw [List.drop_append, List.drop_eq_nil_of_le (by omega), show vs.length + ws.length - l.length = ws.length from by omega]
  simp
theorem splice_left {α : Type} (l m : List α) (p : Nat) (vs : List α) (h : p + vs.length ≤ l.length) : splice (l ++ m) p vs = splice l p vs ++ m := by
  simp only [splice]
  rw [List.take_append_of_le_length (by omega), List.drop_append_of_le_length (by omega)]
  simp

theorem wrMany_sound : ∀ (cs : List AV) (off add : Nat) (vs : List AV) (K : List AV → Prop), bdL n cs = true → wfL cs → bdL n vs = true → wfL vs → wrMany cs off add vs K →
    (vs ≠ [] → off + add + (cellsL β vs).length ≤ (cellsL β cs).length) ∧ ∃ r, cellsL β r = splice (cellsL β cs) (off + add) (cellsL β vs) ∧ (bdL n r = true ∧ wfL r) ∧ (∀ v ∈ cellsL β vs, scalar v = true) ∧ K r := by
  intro cs
  induction cs with
  | nil =>
    intro off add vs K hb hw hvb hvw hr
    cases vs with
    | nil => exact ⟨fun h => absurd rfl h, [], by simp [cellsL, splice], ⟨rfl, trivial⟩, by simp [cellsL], hr⟩
    | cons v vs => exact hr.elim
  | cons c rest ih =>
    intro off add vs K hb hw hvb hvw hr
    cases vs with
    | nil =>
      rw [wrMany_nil] at hr
      exact ⟨fun h => absurd rfl h, c :: rest, by simp only [cellsL, splice_nil], ⟨hb, hw⟩, by simp [cellsL], hr⟩
    | cons v vs =>
      obtain ⟨hb1, hb2⟩ := bdLc hb
      have hw' := hw
      obtain ⟨hw1, hw2⟩ := hw'
      obtain ⟨hv1, hv2⟩ := bdLc hvb
      have hvw' := hvw
      obtain ⟨hx1, hx2⟩ := hvw'
      have out : ∀ (x : AV), (∀ k m xs, x ≠ .run k m xs) → x.bd n = true → x.wf → ∀ (o d : Nat) , wrMany rest o d (v :: vs) (fun r => K (x :: r)) →
          ∀ p, p = o + d + 1 → (v :: vs ≠ [] → p + (cellsL β (v :: vs)).length ≤ (cellsL β (x :: rest)).length) ∧ ∃ r, cellsL β r = splice (cellsL β (x :: rest)) p (cellsL β (v :: vs)) ∧ (bdL n r = true ∧ wfL r) ∧ (∀ w ∈ cellsL β (v :: vs), scalar w = true) ∧ K r := by
        intro x hx hxb hxw o d hh p hp
        obtain ⟨h0, r, h1, h2, h3, h4⟩ := ih o d (v :: vs) _ hb2 hw2 hvb hvw hh
        subst hp
        refine ⟨fun hne => by have := h0 hne; rw [cellsL_cons _ _ hx, List.length_cons]; omega, x :: r, ?_, ⟨?_, hxw, h2.2⟩, h3, h4⟩
        · rw [cellsL_cons _ _ hx, cellsL_cons _ _ hx, splice_succ, h1]
        · simp only [bdL, hxb, h2.1]; rfl
      rcases isRun c with ⟨k, m, xs, rfl⟩ | hn
      · simp only [wrMany] at hr
        simp only [AV.wf] at hw1
        cases hc : Nat.ble m off with
        | true =>
          simp only [hc, cond_true] at hr
          have hle := Nat.le_of_ble_eq_true hc
          obtain ⟨h0, r, h1, h2, h3, h4⟩ := ih (off - m) add (v :: vs) _ hb2 hw2 hvb hvw hr
          refine ⟨fun hne => by have := h0 hne; simp only [cellsL, List.length_append, ints_length] at this ⊢; omega, .run k m xs :: r, ?_, ⟨?_, hw1, h2.2⟩, h3, h4⟩
          · simp only [cellsL, h1]
            rw [splice_right _ _ _ _ (by rw [ints_length]; omega), ints_length, hw1, show off + add - m = off - m + add from by omega]
          · simp only [bdL, h2.1]; rfl
        | false =>
          simp only [hc, cond_false] at hr
          cases v with
          | run k' m' ys =>
            simp only at hr
            simp only [AV.wf] at hx1
            by_cases hk : k = k'
            · subst hk
              simp only [decide_true, cond_true] at hr
              cases he : Nat.beq m m' with
              | true =>
                have he' := Nat.eq_of_beq_eq_true he
                subst he'
                simp only [he, cond_true] at hr
                obtain ⟨hz, hr⟩ := hr
                obtain ⟨h0, r, h1, h2, h3, h4⟩ := ih 0 0 vs _ hb2 hw2 hv2 hx2 hr
                refine ⟨fun _ => ?_, .run k m ys :: r, ?_, ⟨?_, hx1, h2.2⟩, ?_, h4⟩
                · simp only [cellsL, List.length_append, ints_length]
                  by_cases hvs : vs = []
                  · subst hvs; simp only [cellsL, List.length_nil]; omega
                  · have := h0 hvs; omega
                · simp only [cellsL, h1, hz, Nat.add_zero]
                  rw [splice_all _ _ _ _ (by rw [ints_length, ints_length]; omega)]
                · simp only [bdL, h2.1]; rfl
                · intro w hw
                  simp only [cellsL, List.mem_append] at hw
                  rcases hw with hw | hw
                  · simp only [ints, List.mem_map] at hw; obtain ⟨_, _, rfl⟩ := hw; rfl
                  · exact h3 w hw
              | false =>
                simp only [he, cond_false] at hr
                obtain ⟨hle, rfl, hr⟩ := hr
                refine ⟨fun _ => by simp only [cellsL, List.length_append, ints_length, List.length_nil]; omega, .run k m (xs.take (off + add) ++ ys ++ xs.drop (off + add + m')) :: rest, ?_, ⟨?_, ?_, hw2⟩, ?_, hr⟩
                · simp only [cellsL, List.append_nil]
                  rw [splice_left _ _ _ _ (by rw [ints_length, ints_length]; omega)]
                  simp [ints, splice, List.map_take, List.map_drop, hx1]
                · simp only [bdL, hb2]; rfl
                · simp only [AV.wf, List.length_append, List.length_take, List.length_drop]; omega
                · intro w hw
                  simp only [cellsL, List.append_nil, ints, List.mem_map] at hw
                  obtain ⟨_, _, rfl⟩ := hw; rfl
            · simp only [hk, decide_false, cond_false] at hr
          | _ => exact hr.elim
      · rw [wrMany_cons hn] at hr
        cases off with
        | succ o => exact out c hn hb1 hw1 o add hr _ (by omega)
        | zero =>
          cases add with
          | succ d => exact out c hn hb1 hw1 0 d hr _ (by omega)
          | zero =>
            cases hs : v.sc with
            | false => simp only [hs, cond_false] at hr
            | true =>
              simp only [hs, cond_true] at hr
              have hvn : ∀ k m xs, v ≠ .run k m xs := fun k m xs e => by rw [e] at hs; cases hs
              obtain ⟨h0, r, h1, h2, h3, h4⟩ := ih 0 0 vs _ hb2 hw2 hv2 hx2 hr
              refine ⟨fun _ => ?_, v :: r, ?_, ⟨?_, hx1, h2.2⟩, ?_, h4⟩
              · rw [cellsL_cons _ _ hn, cellsL_cons _ _ hvn, List.length_cons, List.length_cons]
                by_cases hvs : vs = []
                · subst hvs; simp only [cellsL, List.length_nil]; omega
                · have := h0 hvs; omega
              · rw [cellsL_cons _ _ hn, cellsL_cons _ _ hvn, cellsL_cons _ _ hvn, splice_zero, h1]
              · simp only [bdL, hv1, h2.1]; rfl
              · intro w hw
                rw [cellsL_cons _ _ hvn] at hw
                rcases List.mem_cons.1 hw with rfl | hw
                · exact sc_scalar hs
                · exact h3 w hw
end
end Go.Proofs.YtfiephhdkloaeaaGreat.Ch
end

section
set_option linter.unusedVariables false
namespace Go.Proofs.YtfiephhdkloaeaaGreat.Ch
open Go Go.Conc
section
variable {P : Program} {main : Bool} {T : Tab} {β : Nat → Nat} {n : Nat} {e : Env} {b : Bx} {h H : Hp} {a : Act}

def upB (β : Nat → Nat) (n r : Nat) : Nat → Nat := fun j => if j = n then r else β j
theorem upB_lt (β : Nat → Nat) (n r : Nat) : ∀ i, i < n → β i = upB β n r i := fun i hi => by simp [upB, Nat.ne_of_lt hi]

theorem RelE.newBox (hE : RelE β n e a) (r : Nat) : RelE (upB β n r) (n + 1) e a := fun t v hl => by
  obtain ⟨h1, h2, h3⟩ := hE t v hl
  exact ⟨by rw [← AV.val_congr (upB_lt β n r) v h2]; exact h1, AV.bd_mono (Nat.le_succ _) _ h2, h3⟩

theorem RelB.newBox (hB : RelB β n b h H) {r : Nat} (hr : H r = none) (Ty : TypeId) (cs : List AV) (hc : bdL n cs = true) (hw : wfL cs) :
    RelB (upB β n r) (n + 1) ((n, Ty, cs) :: b) h (H.set r (true, .cells (cellsL β cs).toArray Ty (0, 0))) := by
  have hup : upB β n r n = r := by simp [upB]
  refine ⟨?_, ?_, ?_⟩
  · intro c x hx
    have : c ≠ r := fun e1 => by rw [e1, hB.sub.none hr] at hx; cases hx
    rw [Hp.set_ne _ _ this]; exact hB.sub c x hx
  · intro i T' ds hi
    simp only [lkB] at hi
    cases hb : Nat.beq n i with
    | true =>
      have e1 := Nat.eq_of_beq_eq_true hb
      subst e1
      simp only [hb, cond_true] at hi
      cases hi
      refine ⟨Nat.lt_succ_self _, ⟨bdL_mono (Nat.le_succ _) _ hc, hw⟩, ?_, ?_⟩
      · rw [hup, Hp.set_same, cellsL_congr (upB_lt β n r) _ hc]
      · rw [hup]; exact hB.sub.none hr
    | false =>
      simp only [hb, cond_false] at hi
      obtain ⟨k1, k2, k3, k4⟩ := hB.box _ _ _ hi
      rw [← upB_lt β n r i k1]
      refine ⟨Nat.lt_succ_of_lt k1, ⟨bdL_mono (Nat.le_succ _) _ k2.1, k2.2⟩, ?_, k4⟩
      have : β i ≠ r := fun e1 => by rw [e1, hr] at k3; cases k3
      rw [Hp.set_ne _ _ this, k3, cellsL_congr (upB_lt β n r) _ k2.1]
  · intro i j x y hi hj he
    simp only [lkB] at hi hj
    cases hbi : Nat.beq n i <;> cases hbj : Nat.beq n j <;> simp only [hbi, hbj, cond_true, cond_false] at hi hj
    · obtain ⟨k1, _, _, _⟩ := hB.box _ _ _ hi
      obtain ⟨l1, _, _, _⟩ := hB.box _ _ _ hj
      rw [← upB_lt β n r i k1, ← upB_lt β n r j l1] at he
      exact hB.inj _ _ _ _ hi hj he
    · have e1 := Nat.eq_of_beq_eq_true hbj
      subst e1
      obtain ⟨k1, _, k3, _⟩ := hB.box _ _ _ hi
      rw [hup, ← upB_lt β n r i k1] at he
      rw [he, hr] at k3; cases k3
    · have e1 := Nat.eq_of_beq_eq_true hbi
      subst e1
      obtain ⟨k1, _, k3, _⟩ := hB.box _ _ _ hj
      rw [hup, ← upB_lt β n r j k1] at he
      rw [← he, hr] at k3; cases k3
    · exact (Nat.eq_of_beq_eq_true hbi).symm.trans (Nat.eq_of_beq_eq_true hbj)

theorem lkB_set_same {b : Bx} {i : Nat} {Ty : TypeId} {cs r : List AV} (hi : lkB b i = some (Ty, cs)) : lkB (setB b i r) i = some (Ty, r) := by
  induction b with
  | nil => cases hi
  | cons y b ih =>
    obtain ⟨d, t, c⟩ := y
    simp only [lkB, setB] at hi ⊢
    cases hd : Nat.beq d i <;> simp only [hd, cond_true, cond_false] at hi ⊢
    · simp only [lkB, hd, cond_false]; exact ih hi
    · cases hi; simp only [lkB, hd, cond_true]
theorem lkB_set_ne {b : Bx} {i j : Nat} {r : List AV} (hn : j ≠ i) : lkB (setB b i r) j = lkB b j := by
  induction b with
  | nil => rfl
  | cons y b ih =>
    obtain ⟨d, t, c⟩ := y
    simp only [lkB, setB]
    cases hd : Nat.beq d i <;> simp only [cond_true, cond_false, lkB]
    · rw [ih]
    · have e1 := Nat.eq_of_beq_eq_true hd
      subst e1
      have : Nat.beq d j = false := by
        cases hb : Nat.beq d j with
        | false => rfl
        | true => exact absurd (Nat.eq_of_beq_eq_true hb).symm hn
      simp only [this, cond_false, ih]

theorem RelB.setBox (hB : RelB β n b h H) {i : Nat} {Ty : TypeId} {cs r : List AV} (hi : lkB b i = some (Ty, cs)) (hb : bdL n r = true) (hw : wfL r) :
    RelB β n (setB b i r) h (H.set (β i) (true, .cells (cellsL β r).toArray Ty (0, 0))) := by
  obtain ⟨h1, h2, h3, h4⟩ := hB.box _ _ _ hi
  refine ⟨?_, ?_, ?_⟩
  · intro c x hx
    have : c ≠ β i := fun e1 => by rw [e1, h4] at hx; cases hx
    rw [Hp.set_ne _ _ this]; exact hB.sub c x hx
  · intro j T' ds hj
    by_cases e1 : j = i
    · subst e1
      rw [lkB_set_same hi] at hj; cases hj
      exact ⟨h1, ⟨hb, hw⟩, Hp.set_same _ _ _, h4⟩
    · rw [lkB_set_ne e1] at hj
      obtain ⟨k1, k2, k3, k4⟩ := hB.box _ _ _ hj
      have : β j ≠ β i := fun e2 => e1 (hB.inj _ _ _ _ hj hi e2)
      exact ⟨k1, k2, by rw [Hp.set_ne _ _ this]; exact k3, k4⟩
  · intro j j' x y hj hj' he
    have back : ∀ {j x}, lkB (setB b i r) j = some x → ∃ x', lkB b j = some x' := by
      intro j x hj
      by_cases e1 : j = i
      · subst e1; exact ⟨_, hi⟩
      · rw [lkB_set_ne e1] at hj; exact ⟨_, hj⟩
    obtain ⟨_, h5⟩ := back hj
    obtain ⟨_, h6⟩ := back hj'
    exact hB.inj _ _ _ _ h5 h6 he

theorem RelB.cell (hB : RelB β n b h H) {i off : Nat} {Ty : TypeId} {cs : List AV} {v : Value} (hi : lkB b i = some (Ty, cs)) (hv : (cellsL β cs)[off]? = some v) : Cell H ⟨β i, off, none⟩ v := by
  obtain ⟨_, _, h3, _⟩ := hB.box _ _ _ hi
  exact ⟨true, _, Ty, _, h3, rfl, by simpa using hv⟩

theorem add_off (blk off j : Nat) : (⟨blk, off, none⟩ : Addr).add j = ⟨blk, off + j, none⟩ := by
  unfold Addr.add; split <;> simp_all

theorem RelB.cells (hB : RelB β n b h H) {i p m : Nat} {Ty : TypeId} {cs : List AV} {vs : List Value} (hi : lkB b i = some (Ty, cs)) (hv : vs = ((cellsL β cs).drop p).take m) : CellsAt H ⟨β i, p, none⟩ vs := by
  intro j v hj
  rw [add_off]
  refine hB.cell hi ?_
  rw [hv] at hj
  rw [List.getElem?_take] at hj
  split at hj
  · rwa [List.getElem?_drop] at hj
  · cases hj

theorem wp_newVar {t : TypeId} {v : Value} {Q : Addr → Hp → Prop} {E : Halt → Hp → Prop} (hq : ∀ r, H r = none → Q ⟨r, 0, none⟩ (H.set r (true, .cells v.cells t (0, 0)))) : wp P (newVar t v) H Q E := hq

theorem set_set (h : Hp) (c : Nat) (x y : Bool × Obj) : (h.set c x).set c y = h.set c y := by
  funext d; unfold Hp.set; split <;> rfl
theorem set_get {h : Hp} {c : Nat} {x : Bool × Obj} (hx : h c = some x) : h.set c x = h := by
  funext d; unfold Hp.set; split
  · rename_i e1; rw [e1, hx]
  · rfl

theorem splice_cons {α : Type} (l : List α) (p : Nat) (v : α) (vs : List α) (hp : p < l.length) : splice (l.set p v) (p + 1) vs = splice l p (v :: vs) := by
  simp only [splice, List.length_cons]
  rw [List.take_add_one, List.take_set_of_le (Nat.le_refl _), List.drop_set_of_lt (by omega), show p + 1 + vs.length = p + (vs.length + 1) from by omega]
  simp [hp]

theorem wp_storeCells {blk o : Nat} {Ty : TypeId} : ∀ (vs : List Value) (i : Nat) (l : List Value) (H : Hp) {Q : Unit → Hp → Prop} {E : Halt → Hp → Prop},
    H blk = some (true, .cells l.toArray Ty (0, 0)) → (vs ≠ [] → o + i + vs.length ≤ l.length) → (∀ v ∈ vs, scalar v = true) →
    Q () (H.set blk (true, .cells (splice l (o + i) vs).toArray Ty (0, 0))) → wp P (storeCells ⟨blk, o, none⟩ vs i) H Q E
  | [], i, l, H, Q, E, hb, _, _, hq => by
    rw [splice_nil, set_get hb] at hq; exact hq
  | v :: vs, i, l, H, Q, E, hb, hl, hs, hq => by
    have hlen := hl (by simp)
    simp only [List.length_cons] at hlen
    show wp P (do store ((⟨blk, o, none⟩ : Addr).add i) v; storeCells ⟨blk, o, none⟩ vs (i + 1)) H Q E
    refine wpB ?_
    rw [add_off]
    refine ⟨hs v (List.mem_cons_self ..), l.toArray, Ty, 0, 0, hb, rfl, by simp; omega, by simp, ?_⟩
    have e1 : l.toArray.setIfInBounds (o + i) v = (l.set (o + i) v).toArray := by simp
    rw [e1]
    refine wp_storeCells vs (i + 1) (l.set (o + i) v) _ (Hp.set_same _ _ _) (fun _ => by rw [List.length_set]; omega) (fun w hw => hs w (List.mem_cons_of_mem _ hw)) ?_
    rw [set_set, show o + (i + 1) = o + i + 1 from by omega, splice_cons _ _ _ _ (by omega)]
    exact hq

theorem wp_sureAddr {ad : Addr} {Q : Addr → Hp → Prop} {E : Halt → Hp → Prop} (hq : Q ad H) : wp P (Instr.sureAddr (.pointer (some ad))) H Q E := hq

variable {o : Oper} {pd : List AV} {K : AV → Env → Nat → Bx → Hp → List AV → Prop}

theorem upB_ne {r j : Nat} (hn : j ≠ n) : upB β n r j = β j := by simp only [upB, hn, if_false]

theorem PdOK.newBox (hB : RelB β n b h H) {r : Nat} {x : TypeId × List AV} : ∀ {pd : List AV} {L : List (Nat × Obj)}, PdOK β b h pd L → PdOK (upB β n r) ((n, x) :: b) h pd L
  | [], L, hp => hp
  | v :: pd, L, hp => by
    cases v with
    | ptr ad =>
      obtain ⟨p, o, L', h1, h2, h3⟩ := hp
      exact ⟨p, o, L', h1, h2, PdOK.newBox hB h3⟩
    | bptr id of ad =>
      obtain ⟨T, ds, L', h1, h2, h3⟩ := hp
      obtain ⟨k1, k2, _, _⟩ := hB.box _ _ _ h1
      refine ⟨T, ds, L', ?_, ?_, PdOK.newBox hB h3⟩
      · have : Nat.beq n id = false := by
          cases hb : Nat.beq n id with
          | false => rfl
          | true => have := Nat.eq_of_beq_eq_true hb; omega
        simp only [lkB, this, cond_false]; exact h1
      · have hne : id ≠ n := by omega
        have : cellsL (upB β n r) ds = cellsL β ds := cellsL_congr (n := n) (fun j hj => upB_ne (by omega)) ds k2.1
        rw [this, h2]
        rw [upB_ne hne]
    | _ => exact hp.elim

theorem op_box {x : Operand} {t : TypeId} {v : AV} (ho : o.op = .box t x) (hE : RelE β n e a) (hB : RelB β n b h H) (hx : ev e x = some v) (hK : K (.bptr n 0 0) e (n + 1) ((n, t, v.cs) :: b) h pd) :
    OpG P main o a H (PostK P a β b h pd K) := by
  obtain ⟨h1, h2, h3⟩ := hE.ev hx
  left
  have : execOp a.eval o = (do pure (.value (← Instr.box t (a.eval x)))) := by unfold execOp; rw [ho]
  rw [this]
  refine wpB (wpB (wp_newVar fun r hr => ?_))
  refine .inl ⟨_, rfl, upB β n r, .bptr n 0 0, e, n + 1, (n, t, v.cs) :: b, h, pd, ?_, ⟨by simp [AV.bd], trivial⟩, hE.newBox r, ?_, fun L hL => hL.newBox hB, hK⟩
  · simp [AV.val, upB]
  · have hcs : bdL n v.cs = true ∧ wfL v.cs := by
      cases v <;> first | exact ⟨by simpa [AV.cs, bdL] using h2, h3, trivial⟩ | exact ⟨h2, h3⟩
    have := hB.newBox hr t v.cs hcs.1 hcs.2
    rw [h1, cells_val]
    exact this

theorem op_alloc (hT : TabOK P T) {t : TypeId} {i : TI} (ho : o.op = .alloc t) (hE : RelE β n e a) (hB : RelB β n b h H) (ht : T.ty t = some i) (hK : K (.bptr n 0 0) e (n + 1) ((n, t, i.zero) :: b) h pd) :
    OpG P main o a H (PostK P a β b h pd K) := by
  obtain ⟨_, ⟨inf, z, hi, hz, hc, hb, hw⟩, _⟩ := hT.ty t i ht
  left
  have : execOp a.eval o = (do pure (.value (← Instr.alloc t true (.tuple #[])))) := by unfold execOp; rw [ho]
  rw [this]
  refine wpB ?_
  show wp P (do let zero ← zeroValue t; pure (Value.pointer (some (← newVar t zero)))) H _ _
  refine wpB (show wp P (zeroValue t) H _ _ from wpB (wp_typeInfo hi ?_))
  rw [hz]
  refine wpB (wp_newVar fun r hr => ?_)
  refine .inl ⟨_, rfl, upB β n r, .bptr n 0 0, e, n + 1, (n, t, i.zero) :: b, h, pd, ?_, ⟨by simp [AV.bd], trivial⟩, hE.newBox r, ?_, fun L hL => hL.newBox hB, hK⟩
  · simp [AV.val, upB]
  · have := hB.newBox hr t i.zero (bdL_mono (Nat.zero_le _) _ hb) hw
    rw [hc, cellsL_of_closed hb id β]
    exact this

theorem op_load (hT : TabOK P T) {X : AV → Prop} {t : TypeId} {i : TI} {x : Operand} (ho : o.op = .load t x) (hE : RelE β n e a) (hB : RelB β n b h H) (ht : T.ty t = some i)
    (hv : match ev e x with
      | some (.bptr id o ad) => match lkB b id with
        | some (_, cs) => bif i.agg then rdMany cs o ad i.size (fun r => X (.agg r)) else rdOne cs o ad X
        | none => False
      | some (.ptr a) => bif Nat.beq i.size 0 then False else LdE h i.size i.agg a X
      | _ => False) : ∃ F, PdOK β b h (pdQ e o.op) F ∧ OpQ P o a β n F X := by
  have hx : execOp a.eval o = (do pure (.value (← Instr.loadAt t (a.eval x)))) := by unfold execOp; rw [ho]
  split at hv
  · rename_i id of ad hev
    obtain ⟨h1, h2, h3⟩ := hE.ev hev
    split at hv
    · rename_i Ty cs hl
      obtain ⟨hid, hc, hH, hn⟩ := hB.box _ _ _ hl
      refine ⟨[(β id, .cells (cellsL β cs).toArray Ty (0, 0))], ?_, ?_⟩
      · rw [ho]; simp only [pdQ, hev]
        exact ⟨Ty, cs, [], hl, rfl, rfl⟩
      have hcell : ∀ {H' : Hp} {off : Nat} {v : Value}, Held [(β id, .cells (cellsL β cs).toArray Ty (0, 0))] H' → (cellsL β cs)[off]? = some v → Cell H' ⟨β id, off, none⟩ v := by
        intro H' off v hF hv
        obtain ⟨p, hp⟩ := hF _ (List.mem_cons_self ..)
        exact ⟨p, _, Ty, _, hp, rfl, by simpa using hv⟩
      cases hi : i.agg with
      | true =>
        simp only [hi, cond_true] at hv
        obtain ⟨r, e1, e2, e3, e4⟩ := rdMany_sound (β := β) cs of ad i.size _ hc.1 hc.2 hv
        refine opPure (av := .agg r) hx (fun H' hF => ?_) ⟨e3.1, e3.2⟩ e4
        rw [h1]
        refine wpB (wp_sureAddr (wp_loadVar hT ht (v := (AV.agg r).val β) (fun _ => ⟨_, rfl, e2, ?_⟩) (fun hf => by rw [hi] at hf; cases hf) ⟨rfl, rfl⟩))
        intro j w hj
        rw [add_off]
        refine hcell hF ?_
        rw [e1, List.getElem?_take] at hj
        split at hj
        · rwa [List.getElem?_drop] at hj
        · cases hj
      | false =>
        simp only [hi, cond_false] at hv
        obtain ⟨v, e1, e2, e3⟩ := rdOne_sound (β := β) cs of ad _ hc.1 hc.2 hv
        refine opPure (av := v) hx (fun H' hF => ?_) e2 e3
        rw [h1]
        exact wpB (wp_sureAddr (wp_loadVar hT ht (v := v.val β) (fun hf => by rw [hi] at hf; cases hf) (fun _ => hcell hF e1) ⟨rfl, rfl⟩))
    · exact hv.elim
  · rename_i ad hev
    obtain ⟨h1, h2, h3⟩ := hE.ev hev
    cases hz : Nat.beq i.size 0 with
    | true => simp only [hz, cond_true] at hv
    | false =>
    simp only [hz, cond_false] at hv
    obtain ⟨v, k1, k2, k3, k4, k5, k6⟩ := hv.out
    have hlen : 0 < (cellsL id v.cs).length := by
      rw [k4]; exact Nat.pos_of_ne_zero (Nat.ne_of_beq_eq_false hz)
    obtain ⟨p0, c0, e0, f0, q1, q2, q3⟩ := k3 0 _ (List.getElem?_eq_getElem hlen)
    have hb0 : (ad.add 0).block = ad.block := rfl
    refine ⟨[(ad.block, .cells c0 e0 f0)], ?_, ?_⟩
    · rw [ho]; simp only [pdQ, hev]
      exact ⟨p0, _, [], q1, rfl, rfl⟩
    refine opPure (av := v) hx (fun H' hF => ?_) ⟨AV.bd_mono (Nat.zero_le _) _ k1, k2⟩ k6
    rw [h1]
    obtain ⟨p, hp⟩ := hF _ (List.mem_cons_self ..)
    have up : CellsAt H' ad (cellsL id v.cs) := fun j w hj => by
      obtain ⟨p', c, ee, f, q1', q2', q3'⟩ := k3 j w hj
      have hbj : (ad.add j).block = ad.block := by unfold Addr.add; split <;> rfl
      rw [hbj] at q1'
      rw [hb0] at q1
      rw [q1] at q1'
      cases q1'
      exact ⟨p, _, _, _, by rw [hbj]; exact hp, q2', q3'⟩
    refine wpB (wp_sureAddr (wp_loadVar hT ht (v := v.val β) (fun hi => ?_) (fun hi => ?_) ⟨rfl, rfl⟩))
    · cases v with
      | agg cs =>
        have hcl : cellsL id cs = cellsL β cs := cellsL_of_closed (by simpa [AV.bd] using k1) _ _
        exact ⟨cellsL β cs, rfl, by rw [← hcl]; exact k4, by rw [← hcl]; exact up⟩
      | _ => simp only [hi, and_false, Bool.true_eq_false] at k5
    · have hs : v.sc = true := by
        cases v with
        | agg cs => simp only [hi, Bool.false_eq_true] at k5
        | _ => exact k5.1
      have := up 0 (v.val id) (by rw [sc_cs hs, sc_cells hs]; rfl)
      rw [val_of_closed k1 id β, show ad.add 0 = ad from rfl] at this
      exact this
  · exact hv.elim
end
end Go.Proofs.YtfiephhdkloaeaaGreat.Ch
end

section
set_option linter.unusedVariables false
namespace Go.Proofs.YtfiephhdkloaeaaGreat.Ch
open Go Go.Conc
section
variable {P : Program} {main : Bool} {T : Tab} {β : Nat → Nat} {n : Nat} {e : Env} {b : Bx} {h H : Hp} {a : Act}
variable {o : Oper} {pd : List AV} {K : AV → Env → Nat → Bx → Hp → List AV → Prop}

theorem wp_storeVar {t sz : Nat} {blk off : Nat} {Ty : TypeId} {l : List Value} {v : Value} {vs : List Value} {Q : Unit → Hp → Prop} {E : Halt → Hp → Prop} (hz : SizeIs P t sz)
    (hv : v.cells = vs.toArray) (hs : vs.length = sz) (hb : H blk = some (true, .cells l.toArray Ty (0, 0))) (hl : vs ≠ [] → off + vs.length ≤ l.length) (hsc : ∀ v ∈ vs, scalar v = true)
    (hq : Q () (H.set blk (true, .cells (splice l off vs).toArray Ty (0, 0)))) : wp P (storeVar t ⟨blk, off, none⟩ v) H Q E := by
  unfold storeVar
  refine wpB (wp_sizeOf hz ?_)
  rw [hv]
  simp only [List.size_toArray, hs, ne_eq, not_true_eq_false, if_false]
  exact wp_storeCells vs 0 l H hb hl hsc hq

theorem PdOK.setBox {i : Nat} {cs : List AV} : ∀ {pd : List AV} {L : List (Nat × Obj)}, noBox i pd = true → PdOK β b h pd L → PdOK β (setB b i cs) h pd L
  | [], L, hk, hp => hp
  | v :: pd, L, hk, hp => by
    cases v with
    | ptr ad =>
      obtain ⟨p, o, L', h1, h2, h3⟩ := hp
      exact ⟨p, o, L', h1, h2, PdOK.setBox hk h3⟩
    | bptr id of ad =>
      obtain ⟨T, ds, L', h1, h2, h3⟩ := hp
      simp only [noBox] at hk
      cases hb : Nat.beq id i with
      | true => simp only [hb, cond_true] at hk; cases hk
      | false =>
        simp only [hb, cond_false] at hk
        have hn : id ≠ i := Nat.ne_of_beq_eq_false hb
        exact ⟨T, ds, L', by rw [lkB_set_ne hn]; exact h1, h2, PdOK.setBox hk h3⟩
    | _ => exact hp.elim

theorem op_storeBox (hT : TabOK P T) {t : TypeId} {i : TI} {x y : Operand} {id of ad : Nat} {v : AV} {Ty : TypeId} {cs : List AV} (ho : o.op = .store t x y) (hE : RelE β n e a) (hB : RelB β n b h H) (ht : T.ty t = some i)
    (hx : ev e x = some (.bptr id of ad)) (hy : ev e y = some v) (hl : lkB b id = some (Ty, cs))
    (hv : bif noBox id pd then (bif i.agg then (match (generalizing := false) v with
              | .agg vs => bif Nat.beq (widthL vs) i.size then wrMany cs of ad vs (fun r => K (.tup []) e n (setB b id r) h pd) else False
              | _ => False)
            else bif v.sc && Nat.beq i.size 1 then wrOne cs of ad v (fun r => K (.tup []) e n (setB b id r) h pd) else False) else False) : OpG P main o a H (PostK P a β b h pd K) := by
  obtain ⟨h1, h2, h3⟩ := hE.ev hx
  obtain ⟨y1, y2, y3⟩ := hE.ev hy
  obtain ⟨hz, _, d, hd, hag, _⟩ := hT.ty t i ht
  obtain ⟨hid, hc, hH, hn⟩ := hB.box _ _ _ hl
  have hx' : execOp a.eval o = (do Instr.storeAt t (a.eval x) (a.eval y); pure .skip) := by unfold execOp; rw [ho]
  cases hnb : noBox id pd with
  | false => simp only [hnb, cond_false] at hv
  | true =>
  simp only [hnb, cond_true] at hv
  left
  rw [hx', h1, y1]
  refine wpB (wpB (wp_sureAddr ?_))
  cases hi : i.agg with
  | true =>
    simp only [hi, cond_true] at hv
    cases v with
    | agg vs =>
      cases hwd : Nat.beq (widthL vs) i.size with
      | false => simp only [hwd, cond_false] at hv
      | true =>
        simp only [hwd, cond_true] at hv
        have hlen : (cellsL β vs).length = i.size := (widthL_len y3).trans (Nat.eq_of_beq_eq_true hwd)
        obtain ⟨k1, r, k2, k3, k4, k5⟩ := wrMany_sound (β := β) cs of ad vs _ hc.1 hc.2 y2 y3 hv
        refine wp_storeVar hz (vs := cellsL β vs) rfl hlen hH (fun hne => k1 ?_) k4 ?_
        · intro e1; rw [e1] at hne; exact hne rfl
        · rw [← k2]
          exact .inr ⟨rfl, β, .tup [], e, n, setB b id r, h, pd, rfl, ⟨rfl, trivial⟩, hE, hB.setBox hl k3.1 k3.2, fun L hL => hL.setBox hnb, k5⟩
    | _ => exact hv.elim
  | false =>
    simp only [hi, cond_false] at hv
    cases hs : (v.sc && Nat.beq i.size 1) with
    | false => simp only [hs, cond_false] at hv
    | true =>
      simp only [hs, cond_true] at hv
      simp only [Bool.and_eq_true] at hs
      obtain ⟨hs, hlen⟩ := hs
      have hlen := Nat.eq_of_beq_eq_true hlen
      obtain ⟨k1, r, k2, k3, k4⟩ := wrOne_sound (β := β) hs y2 y3 cs of ad _ hc.1 hc.2 hv
      refine wp_storeVar hz (vs := [v.val β]) (by rw [cells_val, sc_cs hs, sc_cells hs]) (by rw [hlen]; rfl) hH (fun _ => by simp only [List.length_singleton]; omega) (fun w hw => by rw [List.mem_singleton.1 hw]; exact sc_scalar hs) ?_
      have : splice (cellsL β cs) (of + ad) [v.val β] = (cellsL β cs).set (of + ad) (v.val β) := by
        rw [List.set_eq_take_append_cons_drop, if_pos k1]; simp [splice]
      rw [this, ← k2]
      exact .inr ⟨rfl, β, .tup [], e, n, setB b id r, h, pd, rfl, ⟨rfl, trivial⟩, hE, hB.setBox hl k3.1 k3.2, fun L hL => hL.setBox hnb, k4⟩

theorem wp_fieldAt {t f off : Nat} {F : Array Field} {x : Field} {ad : Addr} {sz : Nat} {Q : Value → Hp → Prop} {E : Halt → Hp → Prop} (hd : P.underlying t = some (.struct F)) (hf : F[f]? = some x)
    (hoff : x.offset = off) (hs : SizeIs P x.type sz) (hz : sz ≠ 0) (hq : Q (.pointer (some (ad.add off))) H) : wp P (Instr.fieldAt t (.pointer (some ad)) f) H Q E := by
  unfold Instr.fieldAt
  refine wpB (wp_underlying hd ?_)
  simp only [hf]
  refine wpB (wp_sureAddr ?_)
  unfold fieldPlace
  refine wpB (wpB (wp_sizeOf hs ?_))
  rw [if_neg hz, hoff]
  exact hq

theorem op_field (hT : TabOK P T) {t : TypeId} {fs : List (Nat × Nat × Nat)} {sz0 : Nat} {ag : Bool} {z : List AV} {x : Operand} {f off ft sz : Nat} {ad : Addr} {av : AV} (ho : o.op = .fieldAddr t x f) {F : List (Nat × Obj)} {X : AV → Prop}
    (ht : T.ty t = some ⟨.struct fs, sz0, ag, z⟩) (hf : fs[f]? = some (off, ft, sz)) (hz : Nat.beq sz 0 = false) (hx : a.eval x = .pointer (some ad)) (hav : Value.pointer (some (ad.add off)) = av.val β) (hb : av.bd n = true ∧ av.wf)
    (hK : X av) : OpQ P o a β n F X := by
  obtain ⟨_, _, d, hd, _, Fs, rfl, _, hF⟩ := hT.ty t _ ht
  obtain ⟨fx, k1, k2, k3, k4⟩ := hF f off ft sz hf
  have hx' : execOp a.eval o = (do pure (.value (← Instr.fieldAt t (a.eval x) f))) := by unfold execOp; rw [ho]
  refine opPure (av := av) hx' (fun H' _ => ?_) hb hK
  rw [hx]
  exact wp_fieldAt hd k1 k2 (by rw [k3]; exact k4) (Nat.ne_of_beq_eq_false hz) ⟨hav, rfl⟩

theorem wp_asIntOf {k : IntKind} {j : Int} {Q : IntKind × Int → Hp → Prop} {E : Halt → Hp → Prop} (hq : Q (k, j) H) : wp P (asIntOf (.int k j)) H Q E := hq

theorem wpP {α : Type} {x : α} {Q : α → Hp → Prop} {E : Halt → Hp → Prop} (hq : Q x H) : wp P (pure x) H Q E := hq
theorem wp_indexAt_slice {t el sz : Nat} {k : IntKind} {j : Int} {ad : Addr} {len cap : Nat} {Q : Value → Hp → Prop} {E : Halt → Hp → Prop} (hd : P.underlying t = some (.slice el)) (hs : SizeIs P el sz)
    (hj : 0 ≤ j ∧ j < len) (hq : Q (.pointer (some (ad.add (j.toNat * sz)))) H) : wp P (Instr.indexAt t (.slice (some ad) len cap) (.int k j)) H Q E := by
  unfold Instr.indexAt
  refine wpB (wp_asIntOf (wpB (wp_underlying hd ?_)))
  refine wpB (wpP ?_)
  refine wpB (wp_underlying hd ?_)
  simp only [hj, and_self, if_true]
  exact wpB (wp_sizeOf hs hq)
theorem wp_indexAt_array {t el sz m : Nat} {k : IntKind} {j : Int} {ad : Addr} {Q : Value → Hp → Prop} {E : Halt → Hp → Prop} (hd : P.underlying t = some (.array m el)) (hs : SizeIs P el sz)
    (hj : 0 ≤ j ∧ j < m) (hq : Q (.pointer (some (ad.add (j.toNat * sz)))) H) : wp P (Instr.indexAt t (.pointer (some ad)) (.int k j)) H Q E := by
  unfold Instr.indexAt
  refine wpB (wp_asIntOf (wpB (wp_underlying hd ?_)))
  refine wpB (wp_sureAddr (wpB (wpP ?_)))
  refine wpB (wp_underlying hd ?_)
  simp only [hj, and_self, if_true]
  exact wpB (wp_sizeOf hs hq)

theorem op_index (hT : TabOK P T) {t : TypeId} {x i : Operand} (ho : o.op = .indexAddr t x i) {F : List (Nat × Obj)} {X : AV → Prop} (hE : RelE β n e a)
    (hv : match T.ty t with
    | some ⟨.slice _ sz, _, _, _⟩ => match ev e x with
      | some (.sl a len _) => match ev e i with
        | some (.int _ j) => match a with
          | some a => Chk (0 ≤ j ∧ j < len) (X (.ptr (a.add (j.toNat * sz))))
          | none => False
        | _ => False
      | some (.bsl id o ad len _) => match ev e i with
        | some (.int _ j) => Chk (0 ≤ j ∧ j < len) (X (.bptr id o (ad + j.toNat * sz)))
        | _ => False
      | _ => False
    | some ⟨.array m _ sz, _, _, _⟩ => match ev e x with
      | some (.bptr id o ad) => match ev e i with
        | some (.int _ j) => Chk (0 ≤ j ∧ j < m) (X (.bptr id o (ad + j.toNat * sz)))
        | _ => False
      | some (.ptr a) => match ev e i with
        | some (.int _ j) => Chk (0 ≤ j ∧ j < m) (X (.ptr (a.add (j.toNat * sz))))
        | _ => False
      | _ => False
    | _ => False) : OpQ P o a β n F X := by
  have hx' : execOp a.eval o = (do pure (.value (← Instr.indexAt t (a.eval x) (a.eval i)))) := by unfold execOp; rw [ho]
  split at hv
  · rename_i el sz _ _ _ ht
    obtain ⟨_, _, d, hd, _, rfl, hs⟩ := hT.ty t _ ht
    split at hv
    · rename_i a' len cap hx
      obtain ⟨h1, -, -⟩ := hE.ev hx
      split at hv
      · rename_i k j hi
        obtain ⟨i1, -, -⟩ := hE.ev hi
        split at hv
        · rename_i ad
          refine opPure (av := .ptr (ad.add (j.toNat * sz))) hx' (fun H' _ => ?_) ⟨rfl, trivial⟩ hv.out.2
          rw [h1, i1]
          exact wp_indexAt_slice hd hs hv.out.1 ⟨rfl, rfl⟩
        · exact hv.elim
      · exact hv.elim
    · rename_i id of ad len cap hx
      obtain ⟨h1, h2, -⟩ := hE.ev hx
      split at hv
      · rename_i k j hi
        obtain ⟨i1, -, -⟩ := hE.ev hi
        refine opPure (av := .bptr id of (ad + j.toNat * sz)) hx' (fun H' _ => ?_) ⟨h2, trivial⟩ hv.out.2
        rw [h1, i1]
        refine wp_indexAt_slice hd hs hv.out.1 ⟨?_, rfl⟩
        simp only [AV.val, add_off, Nat.add_assoc]
      · exact hv.elim
    · exact hv.elim
  · rename_i m el sz _ _ _ ht
    obtain ⟨_, _, d, hd, _, rfl, hs⟩ := hT.ty t _ ht
    split at hv
    · rename_i id of ad hx
      obtain ⟨h1, h2, -⟩ := hE.ev hx
      split at hv
      · rename_i k j hi
        obtain ⟨i1, -, -⟩ := hE.ev hi
        refine opPure (av := .bptr id of (ad + j.toNat * sz)) hx' (fun H' _ => ?_) ⟨h2, trivial⟩ hv.out.2
        rw [h1, i1]
        refine wp_indexAt_array hd hs hv.out.1 ⟨?_, rfl⟩
        simp only [AV.val, add_off, Nat.add_assoc]
      · exact hv.elim
    · rename_i ad hx
      obtain ⟨h1, -, -⟩ := hE.ev hx
      split at hv
      · rename_i k j hi
        obtain ⟨i1, -, -⟩ := hE.ev hi
        refine opPure (av := .ptr (ad.add (j.toNat * sz))) hx' (fun H' _ => ?_) ⟨rfl, trivial⟩ hv.out.2
        rw [h1, i1]
        exact wp_indexAt_array hd hs hv.out.1 ⟨rfl, rfl⟩
      · exact hv.elim
    · exact hv.elim
  · exact hv.elim

theorem brc_cases {c : Bool} {p q : Prop} (h : brc c p q) : (c = true ∧ p) ∨ (c = false ∧ q) := by
  cases c with
  | true => exact .inl ⟨rfl, h⟩
  | false => exact .inr ⟨rfl, h⟩

theorem cmp_out {p : Bool} {X : AV → Prop} (h : cmp p X) : X (.bool p) := by
  rcases brc_cases h with ⟨rfl, h⟩ | ⟨rfl, h⟩ <;> exact h

theorem wp_eqGuard_int {op : BinOp} {t : TypeId} {x y : Operand} {k k' : IntKind} {p q : Int} {Q : Unit → Hp → Prop} {E : Halt → Hp → Prop} (hq : Q () H) : wp P (eqGuard op t x y (.int k p) (.int k' q)) H Q E := by
  unfold eqGuard
  cases op <;> exact hq

theorem intBin_out {op : BinOp} {t : TypeId} {k : IntKind} {x y : Int} {X : AV → Prop} (hv : intBin op k x y X) :
    ∃ av, X av ∧ (av.bd n = true ∧ av.wf) ∧ ∀ H, wp P (binOp op t (.int k x) (.int k y)) H (fun v H' => v = av.val β ∧ H' = H) (fun _ _ => False) := by
  cases op <;> simp only [intBin] at hv <;> try exact hv.elim
  case add | sub | mul | and | or | xor | andNot => exact ⟨_, hv, ⟨rfl, trivial⟩, fun H => by simp [binOp, Op.intArith, Op.intBits]; exact ⟨rfl, rfl⟩⟩
  case quo | rem =>
    obtain ⟨hc, hv⟩ := hv.out
    refine ⟨_, hv, ⟨rfl, trivial⟩, fun H => ?_⟩
    simp only [binOp, ne_eq, not_true_eq_false, if_false, Op.intDiv, hc]
    exact ⟨rfl, rfl⟩
  all_goals
    refine ⟨_, cmp_out hv, ⟨rfl, trivial⟩, fun H => ?_⟩
    simp only [binOp, ne_eq, not_true_eq_false, if_false, Op.intCmp]
    refine ⟨?_, rfl⟩
    simp [AV.val]
    try (rw [Bool.eq_iff_iff]; simp)

theorem eqK_out {op : BinOp} {p : Bool} {X : AV → Prop} (h : eqK op p X) : (op = .eql ∧ X (.bool p)) ∨ (op = .neq ∧ X (.bool (!p))) := by
  cases op <;> simp only [eqK] at h <;> try exact h.elim
  · exact .inl ⟨rfl, cmp_out h⟩
  · exact .inr ⟨rfl, cmp_out h⟩

/-- '==' and '!=' where the guard has nothing to say. -/
theorem wp_eqs {op : BinOp} {t : TypeId} {x y : Operand} {u v : Value} {p : Bool} {X : AV → Prop} (h : eqK op p X) (hu : u ≠ .nilIface ∧ (∀ cs, u ≠ .agg cs) ∧ (∀ k z, u ≠ .int k z) ∧ (∀ k z, u ≠ .float k z) ∧ (∀ k z w, u ≠ .complex k z w) ∧ (∀ s, u ≠ .string s))
    (he : ∀ H, wp P (Op.equal t u v) H (fun r H' => r = p ∧ H' = H) (fun _ _ => False)) :
    ∃ av, X av ∧ (av.bd n = true ∧ av.wf) ∧ ∀ H, wp P (do eqGuard op t x y u v; binOp op t u v) H (fun v H' => v = av.val β ∧ H' = H) (fun _ _ => False) := by
  obtain ⟨h1, h2, h3, h4, h5, h6⟩ := hu
  have hg : ∀ {H : Hp} {Q : Unit → Hp → Prop} {E : Halt → Hp → Prop}, Q () H → wp P (eqGuard op t x y u v) H Q E := by
    intro H Q E hq
    unfold eqGuard
    cases op <;> cases u <;> first | exact absurd rfl h1 | exact absurd rfl (h2 _) | exact hq
  rcases eqK_out h with ⟨rfl, hX⟩ | ⟨rfl, hX⟩
  · refine ⟨_, hX, ⟨rfl, trivial⟩, fun H => wpB (hg ?_)⟩
    have : binOp .eql t u v = (do pure (.bool (← Op.equal t u v))) := by
      cases u <;> first | exact absurd rfl (h3 _ _) | exact absurd rfl (h4 _ _) | exact absurd rfl (h5 _ _ _) | exact absurd rfl (h6 _) | rfl
    rw [this]
    refine wpB (wp_mono _ ?_ (fun _ _ h => h) (he H))
    rintro r H' ⟨rfl, rfl⟩
    exact ⟨rfl, rfl⟩
  · refine ⟨_, hX, ⟨rfl, trivial⟩, fun H => wpB (hg ?_)⟩
    have : binOp .neq t u v = (do pure (.bool (!(← Op.equal t u v)))) := by
      cases u <;> first | exact absurd rfl (h3 _ _) | exact absurd rfl (h4 _ _) | exact absurd rfl (h5 _ _ _) | exact absurd rfl (h6 _) | rfl
    rw [this]
    refine wpB (wp_mono _ ?_ (fun _ _ h => h) (he H))
    rintro r H' ⟨rfl, rfl⟩
    exact ⟨rfl, rfl⟩

theorem eq_bool {t : TypeId} {p q : Bool} {Q : Bool → Hp → Prop} {E : Halt → Hp → Prop} (hd : P.underlying t = some .bool) (hq : Q (p == q) H) : wp P (Op.equal t (.bool p) (.bool q)) H Q E := by
  unfold Op.equal Op.maxDepth Op.equalIn
  exact wpB (wp_underlying hd hq)
theorem eq_ptr_nil {t el : TypeId} {p : Addr} {Q : Bool → Hp → Prop} {E : Halt → Hp → Prop} (hd : P.underlying t = some (.pointer el)) (hq : Q false H) : wp P (Op.equal t (.pointer (some p)) (.pointer none)) H Q E := by
  unfold Op.equal Op.maxDepth Op.equalIn
  exact wpB (wp_underlying hd hq)
theorem eq_nil_nil {t el : TypeId} {Q : Bool → Hp → Prop} {E : Halt → Hp → Prop} (hd : P.underlying t = some (.pointer el)) (hq : Q true H) : wp P (Op.equal t (.pointer none) (.pointer none)) H Q E := by
  unfold Op.equal Op.maxDepth Op.equalIn
  exact wpB (wp_underlying hd hq)
theorem eq_sl_none {t el : TypeId} {q : Option Addr} {l c l' c' : Nat} {Q : Bool → Hp → Prop} {E : Halt → Hp → Prop} (hd : P.underlying t = some (.slice el)) (hq : Q q.isNone H) : wp P (Op.equal t (.slice none l c) (.slice q l' c')) H Q E := by
  unfold Op.equal Op.maxDepth Op.equalIn
  exact wpB (wp_underlying hd hq)
theorem eq_sl_some {t el : TypeId} {p : Addr} {l c l' c' : Nat} {Q : Bool → Hp → Prop} {E : Halt → Hp → Prop} (hd : P.underlying t = some (.slice el)) (hq : Q false H) : wp P (Op.equal t (.slice (some p) l c) (.slice none l' c')) H Q E := by
  unfold Op.equal Op.maxDepth Op.equalIn
  exact wpB (wp_underlying hd hq)

theorem binK_out (hT : TabOK P T) {op : BinOp} {t : TypeId} {x y : Operand} {u v : AV} {X : AV → Prop} {other : Prop} (hv : binK (T.ty t) op u v X other) :
    (∃ av, X av ∧ (av.bd n = true ∧ av.wf) ∧ ∀ H, wp P (do eqGuard op t x y (u.val β) (v.val β); binOp op t (u.val β) (v.val β)) H (fun v H' => v = av.val β ∧ H' = H) (fun _ _ => False)) ∨ other := by
  cases u <;> simp only [binK] at hv <;> try exact .inr hv
  case int k p =>
    cases v <;> simp only at hv
    case int k' q =>
      left
      by_cases h1 : op = .shl
      · subst h1
        obtain ⟨hc, hv⟩ := hv.out
        refine ⟨_, hv, ⟨rfl, trivial⟩, fun H => wpB (wp_eqGuard_int ?_)⟩
        simp only [AV.val, binOp, Op.shift]
        rw [if_neg (by omega)]
        exact ⟨rfl, rfl⟩
      · by_cases h2 : op = .shr
        · subst h2
          obtain ⟨hc, hv⟩ := hv.out
          refine ⟨_, hv, ⟨rfl, trivial⟩, fun H => wpB (wp_eqGuard_int ?_)⟩
          simp only [AV.val, binOp, Op.shift]
          rw [if_neg (by omega)]
          exact ⟨rfl, rfl⟩
        · have hv' : bif decide (k = k') then intBin op k p q X else False := by
            cases op <;> first | exact hv | exact absurd rfl h1 | exact absurd rfl h2
          by_cases hk : k = k'
          · subst hk
            simp only [decide_true, cond_true] at hv'
            obtain ⟨av, k1, k2, k3⟩ := intBin_out (P := P) (β := β) (n := n) (t := t) hv'
            exact ⟨av, k1, k2, fun H => wpB (wp_eqGuard_int (k3 H))⟩
          · simp only [hk, decide_false, cond_false] at hv'
  case bool p =>
    cases v <;> simp only at hv
    case bool q =>
      split at hv
      · rename_i ht
        obtain ⟨_, _, d, hd, _, rfl⟩ := hT.ty t _ ht
        exact .inl (wp_eqs hv (by simp [AV.val]) (fun H => eq_bool hd ⟨rfl, rfl⟩))
      · exact hv.elim
  case ptr ad =>
    cases v <;> simp only at hv <;> try exact .inr hv
    case nilp =>
      split at hv
      · rename_i ht
        obtain ⟨_, _, d, hd, _, el, rfl⟩ := hT.ty t _ ht
        exact .inl (wp_eqs hv (by simp [AV.val]) (fun H => eq_ptr_nil hd ⟨rfl, rfl⟩))
      · exact .inr hv
  case bptr id of ad =>
    cases v <;> simp only at hv <;> try exact .inr hv
    case nilp =>
      split at hv
      · rename_i ht
        obtain ⟨_, _, d, hd, _, el, rfl⟩ := hT.ty t _ ht
        exact .inl (wp_eqs hv (by simp [AV.val]) (fun H => eq_ptr_nil hd ⟨rfl, rfl⟩))
      · exact .inr hv
  case nilp =>
    cases v <;> simp only at hv <;> try exact .inr hv
    case nilp =>
      split at hv
      · rename_i ht
        obtain ⟨_, _, d, hd, _, el, rfl⟩ := hT.ty t _ ht
        exact .inl (wp_eqs hv (by simp [AV.val]) (fun H => eq_nil_nil hd ⟨rfl, rfl⟩))
      · exact .inr hv
  case sl p l c =>
    cases v <;> simp only at hv
    case sl q l' c' =>
      split at hv
      · rename_i ht
        obtain ⟨_, _, d, hd, _, rfl, _⟩ := hT.ty t _ ht
        split at hv
        · exact .inl (wp_eqs hv (by simp [AV.val]) (fun H => eq_sl_none hd ⟨rfl, rfl⟩))
        · split at hv
          · exact .inl (wp_eqs hv (by simp [AV.val]) (fun H => eq_sl_some hd ⟨rfl, rfl⟩))
          · exact hv.elim
      · exact hv.elim
end
end Go.Proofs.YtfiephhdkloaeaaGreat.Ch
end

section
set_option linter.unusedVariables false
namespace Go.Proofs.YtfiephhdkloaeaaGreat.Ch
open Go Go.Conc
section
variable {P : Program} {main : Bool} {T : Tab} {β : Nat → Nat} {n : Nat} {e : Env} {b : Bx} {h H : Hp} {a : Act}
variable {o : Oper} {pd : List AV} {K : AV → Env → Nat → Bx → Hp → List AV → Prop}

theorem valsL_append (β : Nat → Nat) : ∀ xs ys : List AV, valsL β (xs ++ ys) = valsL β xs ++ valsL β ys
  | [], ys => rfl
  | x :: xs, ys => by simp only [List.cons_append, valsL, valsL_append β xs ys]
theorem bdL_append {k : Nat} : ∀ {xs ys : List AV}, bdL k xs = true → bdL k ys = true → bdL k (xs ++ ys) = true
  | [], ys, _, h => h
  | x :: xs, ys, h1, h2 => by
    obtain ⟨a1, a2⟩ := bdLc h1
    simp only [List.cons_append, bdL, a1, bdL_append a2 h2]; rfl
theorem wfL_append : ∀ {xs ys : List AV}, wfL xs → wfL ys → wfL (xs ++ ys)
  | [], ys, _, h => h
  | x :: xs, ys, h1, h2 => ⟨h1.1, wfL_append h1.2 h2⟩

theorem op_call (hT : TabOK P T) {c : Call} {f : Operand} {g : FuncId} {first cap vs : List AV} (ho : o.op = .call c) (hc : c.callee = .value f) (hE : RelE β n e a) (hB : RelB β n b h H)
    (hf : ev e f = some (.fn (.func g) first cap)) (ha : evs e c.args.toList = some vs)
    (hv : revL (idsL (first ++ vs ++ cap)) e b h (first ++ vs ++ cap) pd (fun e b h vs pd => bif bdL 0 vs && T.go g then CallE P main g vs h pd (fun r h' => K r e n b h' pd) else False)) :
    OpG P main o a H (PostK P a β b h pd K) := by
  obtain ⟨f1, f2, f3⟩ := hE.ev hf
  simp only [AV.bd, Bool.and_eq_true] at f2
  simp only [AV.wf] at f3
  obtain ⟨a1, a2, a3⟩ := hE.evs ha
  obtain ⟨e', b', h', vs', pd', q1, q2, q3, q4, q5, q6, q8, q7⟩ := revL_sound hE hB ⟨bdL_append (bdL_append f2.1 a2) f2.2, wfL_append (wfL_append f3.1 a3) f3.2⟩ hv
  cases hcl : (bdL 0 vs' && T.go g) with
  | false => simp only [hcl, cond_false] at q7
  | true =>
    simp only [hcl, cond_true] at q7
    simp only [Bool.and_eq_true] at hcl
    obtain ⟨hcl, hgo⟩ := hcl
    obtain ⟨fn, g1, g2, g3⟩ := hT.go g hgo
    right
    refine ⟨g, (valsL id vs').toArray, fun H => ?_, ?_⟩
    · have hx : execOp a.eval o = (do let d ← resolve a.eval c o.type; invoke d.target d.args) := by unfold execOp; rw [ho]
      rw [hx]
      unfold resolve
      simp only [hc, f1, AV.val]
      refine wpB (show wp P (Deferred.ofValue _ _) H _ _ from ?_)
      show wp P (callFunc g _) H _ _
      unfold callFunc
      show wp P (match P.funcs[g]? with | none => _ | some fn => _) H _ _
      rw [g1]
      simp only [g2, g3, Bool.false_eq_true, if_false]
      refine ⟨?_, rfl⟩
      congr 1
      rw [valsL_of_closed hcl id β, q4, valsL_append, valsL_append, ← a1]
      simp
    · refine (CallsL.frame q7.out q2.sub).mono ?_
      rintro ed H' ⟨h2, ⟨r, h3, hsub, r1, r2, rfl, r4, r3⟩, fr⟩
      have fr' : Fr h' H h3 H' := ⟨fun c x hc => fr.sub c x (hsub c x hc), fun c x hc hk => by
        obtain ⟨f1, f2⟩ := fr.rest c x hc hk
        refine ⟨f1, ?_⟩
        cases hh : h3 c with
        | none => rfl
        | some y => rw [hsub c y hh] at f2; cases f2⟩
      exact ⟨_, rfl, β, r, e', n, b', h3, pd', val_of_closed r1 _ _, ⟨AV.bd_mono (Nat.zero_le _) _ r1, r2⟩, q1, q2.fr fr', fun L hL => (q8 L hL).keep r4, r3⟩

theorem op_move {X : AV → Prop} {F : List (Nat × Obj)} {x : Operand} {v : AV} (ho : o.op = .move x ∨ o.op = .assign x) (hE : RelE β n e a) (hx : ev e x = some v) (hK : X v) : OpQ P o a β n F X := by
  obtain ⟨h1, h2⟩ := hE.ev hx
  refine opValue (v := a.eval x) ?_ h1 h2 hK
  unfold execOp
  rcases ho with ho | ho <;> rw [ho]

theorem op_pick {X : AV → Prop} {F : List (Nat × Obj)} {c x y : Operand} {t : Bool} (ho : o.op = .pick c x y) (hE : RelE β n e a) (hc : ev e c = some (.bool t))
    (hv : brc t (match ev e x with
      | some v => X v
      | none => False) (match ev e y with
      | some v => X v
      | none => False)) : OpQ P o a β n F X := by
  obtain ⟨c1, _⟩ := hE.ev hc
  have hx : execOp a.eval o = (do pure (.value (if ← asBool (a.eval c) then a.eval x else a.eval y))) := by unfold execOp; rw [ho]
  rcases brc_cases hv with ⟨rfl, hw⟩ | ⟨rfl, hw⟩
  · cases hev : ev e x with
    | none => simp only [hev] at hw
    | some v =>
      simp only [hev] at hw
      obtain ⟨h1, h2⟩ := hE.ev hev
      exact opValue (v := a.eval x) (by rw [hx, c1]; rfl) h1 h2 hw
  · cases hev : ev e y with
    | none => simp only [hev] at hw
    | some v =>
      simp only [hev] at hw
      obtain ⟨h1, h2⟩ := hE.ev hev
      exact opValue (v := a.eval y) (by rw [hx, c1]; rfl) h1 h2 hw

theorem op_bin (hT : TabOK P T) {X : AV → Prop} {F : List (Nat × Obj)} {op : BinOp} {t ty : TypeId} {x y : Operand} {u v : AV} {other : Prop} (ho : o.op = .binOp op t x y ty) (hE : RelE β n e a) (hx : ev e x = some u) (hy : ev e y = some v)
    (hv : binK (T.ty t) op u v X other) : OpQ P o a β n F X ∨ other := by
  obtain ⟨x1, _⟩ := hE.ev hx
  obtain ⟨y1, _⟩ := hE.ev hy
  rcases binK_out (P := P) (β := β) (n := n) hT (x := x) (y := y) hv with ⟨av, h1, h2, h3⟩ | h1
  · left
    have hx' : execOp a.eval o = (do pure (.value (← (do eqGuard op t x y (a.eval x) (a.eval y); binOp op t (a.eval x) (a.eval y))))) := by unfold execOp; rw [ho]
    refine opPure (av := av) hx' (fun H' _ => ?_) h2 h1
    rw [x1, y1]
    exact h3 H'
  · exact .inr h1

theorem op_len (hT : TabOK P T) {X : AV → Prop} {F : List (Nat × Obj)} {c : Call} {x : Operand} {v : AV} {l : Nat} {t : TypeId} {i : TI} (ho : o.op = .call c) (hc : c.callee = .builtin .len) (ha : c.args.toList = [x]) (ht : c.argTypes[0]? = some t) (hi : T.ty t = some i)
    (hE : RelE β n e a)
    (hx : ev e x = some v) (hl : ((∃ p q, v.val β = .slice p l q) ∧ ∃ e z, i.d = .slice e z) ∨ ((∃ s, v.val β = .string s ∧ s.size = l) ∧ i.d = .str)) (hK : X (.int .i64 l)) : OpQ P o a β n F X := by
  obtain ⟨h1, h2⟩ := hE.ev hx
  obtain ⟨_, _, d, hd, _, hD⟩ := hT.ty t i hi
  have hargs : c.args = #[x] := by
    rw [← Array.toArray_toList (xs := c.args), ha]
  refine opPure (s := Builtin.len_ c.argTypes o.type #[a.eval x]) (av := .int .i64 l) ?_ (fun H' _ => ?_) ⟨rfl, trivial⟩ hK
  · unfold execOp
    simp only [ho]
    unfold resolve
    simp only [hc, hargs, List.map_toArray, List.map_cons, List.map_nil]
    rfl
  · rw [h1]
    unfold Builtin.len_
    simp only [ht]
    refine wpB (wp_underlying hd ?_)
    rcases hl with ⟨⟨p, q, hl⟩, el, z, hi⟩ | ⟨⟨s, hl, rfl⟩, hi⟩
    · rw [hi] at hD
      obtain ⟨rfl, _⟩ := hD
      simp only [hl]
      exact ⟨rfl, rfl⟩
    · rw [hi] at hD
      cases hD
      simp only [hl]
      exact ⟨rfl, rfl⟩

theorem op_un {X : AV → Prop} {F : List (Nat × Obj)} {op : UnOp} {t : TypeId} {x : Operand} {v w : AV} (ho : o.op = .unOp op t x) (hE : RelE β n e a) (hx : ev e x = some v)
    (hr : Op.unary op (v.val β) = pure (w.val β)) (hb : w.bd n = true ∧ w.wf) (hK : X w) : OpQ P o a β n F X := by
  obtain ⟨h1, h2⟩ := hE.ev hx
  refine opPure (s := Op.unary op (a.eval x)) ?_ (fun H' _ => ?_) hb hK
  · unfold execOp; rw [ho]
  · rw [h1, hr]; exact ⟨rfl, rfl⟩

theorem valsL_get {β : Nat → Nat} : ∀ {vs : List AV} {i : Nat} {v : AV}, vs[i]? = some v → (valsL β vs)[i]? = some (v.val β)
  | [], i, v, h => by simp at h
  | w :: vs, 0, v, h => by simp at h; subst h; rfl
  | w :: vs, i + 1, v, h => by simp at h; simp only [valsL, List.getElem?_cons_succ]; exact valsL_get h
theorem wfL_mem : ∀ {vs : List AV} {v : AV}, wfL vs → v ∈ vs → v.wf
  | [], v, _, hm => by cases hm
  | w :: vs, v, hb, hm => by
    rcases List.mem_cons.1 hm with rfl | hm
    · exact hb.1
    · exact wfL_mem hb.2 hm

/-! ### slicing -/
theorem bound_out (hE : RelE β n e a) {y : Operand} {k : IntKind} {p : Int} {q : Nat} (hy : ev e y = some (.int k p)) (hc : 0 ≤ p ∧ p ≤ (q : Int)) (code : BoundsCode) (H' : Hp) {Q : Nat → Hp → Prop} {E : Halt → Hp → Prop}
    (hq : Q p.toNat H') : wp P (Instr.sliceBound (a.eval y) q code) H' Q E := by
  obtain ⟨h1, -⟩ := hE.ev hy
  rw [h1]
  unfold Instr.sliceBound
  refine wpB (wp_asIntOf ?_)
  simp only [hc, and_self, if_true]
  exact hq

theorem slL_out (hE : RelE β n e a) {lo : Option Operand} {q : Nat} {Y : Option Nat → Nat → Prop} (hv : slL e lo q Y) :
    ∃ l, Y l q ∧ ((lo = none ∧ l = none) ∨ ∃ y p, lo = some y ∧ l = some p ∧ ∀ (code : BoundsCode) (H' : Hp) {Q : Nat → Hp → Prop} {E : Halt → Hp → Prop}, Q p H' → wp P (Instr.sliceBound (a.eval y) q code) H' Q E) := by
  unfold slL at hv
  split at hv
  · exact ⟨none, hv, .inl ⟨rfl, rfl⟩⟩
  · rename_i y
    split at hv
    · rename_i k p hy
      exact ⟨_, hv.out.2, .inr ⟨y, _, rfl, rfl, fun code H' Q E hq => bound_out hE hy hv.out.1 code H' hq⟩⟩
    · exact hv.elim

theorem slK_out (hE : RelE β n e a) {lo hi : Option Operand} {len cap : Nat} {Y : Option Nat → Nat → Prop} (hv : slK e lo hi len cap Y) (isS : Bool) :
    ∃ l q, Y l q ∧ ∀ (H' : Hp) {Q : Nat × Nat × Nat → Hp → Prop} {E : Halt → Hp → Prop}, Q (l.getD 0, q, cap) H' → wp P (Instr.sliceBounds isS len cap (lo.map a.eval) (hi.map a.eval) none) H' Q E := by
  unfold slK at hv
  split at hv
  · obtain ⟨l, h1, h2⟩ := slL_out (P := P) hE hv
    refine ⟨l, len, h1, fun H' Q E hq => ?_⟩
    unfold Instr.sliceBounds
    rcases h2 with ⟨rfl, rfl⟩ | ⟨y, p, rfl, rfl, h2⟩
    · exact hq
    · show wp P (do let l ← Instr.sliceBound (a.eval y) len .sliceB; pure (l, len, cap)) H' Q E
      exact wpB (h2 _ H' hq)
  · rename_i y
    split at hv
    · rename_i k q hy
      obtain ⟨l, h1, h2⟩ := slL_out (P := P) hE hv.out.2
      refine ⟨l, q.toNat, h1, fun H' Q E hq => ?_⟩
      unfold Instr.sliceBounds
      rcases h2 with ⟨rfl, rfl⟩ | ⟨y', p, rfl, rfl, h2⟩
      · show wp P (do let h ← Instr.sliceBound (a.eval y) cap (if isS then .sliceAcap else .sliceAlen); pure (0, h, cap)) H' Q E
        exact wpB (bound_out hE hy hv.out.1 _ H' hq)
      · show wp P (do let h ← Instr.sliceBound (a.eval y) cap (if isS then .sliceAcap else .sliceAlen); let l ← Instr.sliceBound (a.eval y') h .sliceB; pure (l, h, cap)) H' Q E
        exact wpB (bound_out hE hy hv.out.1 _ H' (wpB (h2 _ H' hq)))
    · exact hv.elim

theorem ofs_beq (cap l : Nat) {α : Type} (x y : α) : (if cap = l then x else y) = bif Nat.beq cap l then x else y := by
  cases h : Nat.beq cap l with
  | true => rw [if_pos (Nat.eq_of_beq_eq_true h)]; rfl
  | false => rw [if_neg (Nat.ne_of_beq_eq_false h)]; rfl

theorem op_slice (hT : TabOK P T) {X : AV → Prop} {F : List (Nat × Obj)} {t : TypeId} {x : Operand} {lo hi : Option Operand} {other : Prop} (ho : o.op = .slice t x lo hi none) (hE : RelE β n e a)
    (hv : match T.ty t with
      | some ⟨.slice _ sz, _, _, _⟩ => match ev e x with
        | some (.sl a len cap) => slK e lo hi len cap (fun l h => match l with
          | none => X (.sl a h cap)
          | some l => X (.sl (bif Nat.beq cap l then a else a.map (·.add (l * sz))) (h - l) (cap - l)))
        | some (.bsl id o ad len cap) => slK e lo hi len cap (fun l h => match l with
          | none => X (.bsl id o ad h cap)
          | some l => X (.bsl id o (bif Nat.beq cap l then ad else ad + l * sz) (h - l) (cap - l)))
        | _ => other
      | some ⟨.array m _ sz, _, _, _⟩ => match ev e x with
        | some (.bptr id o ad) => slK e lo hi m m (fun l h => match l with
          | none => X (.bsl id o ad h m)
          | some l => X (.bsl id o (bif Nat.beq m l then ad else ad + l * sz) (h - l) (m - l)))
        | some (.ptr a) => slK e lo hi m m (fun l h => match l with
          | none => X (.sl (some a) h m)
          | some l => X (.sl (some (bif Nat.beq m l then a else a.add (l * sz))) (h - l) (m - l)))
        | _ => other
      | _ => other) : OpQ P o a β n F X ∨ other := by
  have hx' : execOp a.eval o = (do pure (.value (← Instr.sliceAt t (a.eval x) (lo.map a.eval) (hi.map a.eval) none))) := by unfold execOp; rw [ho]; rfl
  split at hv
  · rename_i el sz _ _ _ ht
    obtain ⟨_, _, d, hd, _, rfl, hs⟩ := hT.ty t _ ht
    split at hv
    · rename_i ad len cap hx
      obtain ⟨h1, -, -⟩ := hE.ev hx
      obtain ⟨l, q, k1, k2⟩ := slK_out (P := P) hE hv true
      left
      have go : ∀ av : AV, av.val β = .slice (if cap = l.getD 0 then ad else ad.map (·.add (l.getD 0 * sz))) (q - l.getD 0) (cap - l.getD 0) → (av.bd n = true ∧ av.wf) → X av → OpQ P o a β n F X := by
        intro av e1 e2 e3
        refine opPure (av := av) hx' (fun H' _ => ?_) e2 e3
        rw [h1]
        unfold Instr.sliceAt Instr.slice
        refine wpB (wp_underlying hd (wpB (wp_underlying hd (wpB (k2 H' (wpB (wp_sizeOf hs ⟨e1.symm, rfl⟩)))))))
      cases l with
      | none => exact go (.sl ad q cap) (by simp only [AV.val, Option.getD_none, Nat.zero_mul, Nat.sub_zero]; cases ad <;> simp [Addr.add]) ⟨rfl, trivial⟩ k1
      | some l => exact go (.sl (bif Nat.beq cap l then ad else ad.map (·.add (l * sz))) (q - l) (cap - l)) (by simp only [AV.val, Option.getD_some, ofs_beq]) ⟨rfl, trivial⟩ k1
    · rename_i id of ad len cap hx
      obtain ⟨h1, h2, -⟩ := hE.ev hx
      obtain ⟨l, q, k1, k2⟩ := slK_out (P := P) hE hv true
      left
      have go : ∀ av : AV, av.val β = .slice (if cap = l.getD 0 then some ⟨β id, of + ad, none⟩ else some ((⟨β id, of + ad, none⟩ : Addr).add (l.getD 0 * sz))) (q - l.getD 0) (cap - l.getD 0) → (av.bd n = true ∧ av.wf) → X av → OpQ P o a β n F X := by
        intro av e1 e2 e3
        refine opPure (av := av) hx' (fun H' _ => ?_) e2 e3
        rw [h1]
        unfold Instr.sliceAt Instr.slice
        refine wpB (wp_underlying hd (wpB (wp_underlying hd (wpB (k2 H' (wpB (wp_sizeOf hs ⟨e1.symm, rfl⟩)))))))
      cases l with
      | none => exact go (.bsl id of ad q cap) (by simp only [AV.val, Option.getD_none, Nat.zero_mul, Nat.sub_zero]; simp [Addr.add]) ⟨h2, trivial⟩ k1
      | some l => exact go (.bsl id of (bif Nat.beq cap l then ad else ad + l * sz) (q - l) (cap - l)) (by simp only [AV.val, Option.getD_some, ofs_beq, add_off]; cases Nat.beq cap l <;> simp [Nat.add_assoc]) ⟨h2, trivial⟩ k1
    · exact .inr hv
  · rename_i m el sz _ _ _ ht
    obtain ⟨_, _, d, hd, _, rfl, hs⟩ := hT.ty t _ ht
    split at hv
    · rename_i id of ad hx
      obtain ⟨h1, h2, -⟩ := hE.ev hx
      obtain ⟨l, q, k1, k2⟩ := slK_out (P := P) hE hv false
      left
      have go : ∀ av : AV, av.val β = .slice (some (if m = l.getD 0 then ⟨β id, of + ad, none⟩ else ((⟨β id, of + ad, none⟩ : Addr).add (l.getD 0 * sz)))) (q - l.getD 0) (m - l.getD 0) → (av.bd n = true ∧ av.wf) → X av → OpQ P o a β n F X := by
        intro av e1 e2 e3
        refine opPure (av := av) hx' (fun H' _ => ?_) e2 e3
        rw [h1]
        unfold Instr.sliceAt
        refine wpB (wp_underlying hd (wpB (wp_sureAddr (wpB (k2 H' (wpB (wp_sizeOf hs ⟨e1.symm, rfl⟩)))))))
      cases l with
      | none => exact go (.bsl id of ad q m) (by simp only [AV.val, Option.getD_none, Nat.zero_mul, Nat.sub_zero]; simp [Addr.add]) ⟨h2, trivial⟩ k1
      | some l => exact go (.bsl id of (bif Nat.beq m l then ad else ad + l * sz) (q - l) (m - l)) (by simp only [AV.val, Option.getD_some, ofs_beq, add_off]; cases Nat.beq m l <;> simp [Nat.add_assoc]) ⟨h2, trivial⟩ k1
    · rename_i ad hx
      obtain ⟨h1, -, -⟩ := hE.ev hx
      obtain ⟨l, q, k1, k2⟩ := slK_out (P := P) hE hv false
      left
      have go : ∀ av : AV, av.val β = .slice (some (if m = l.getD 0 then ad else (ad.add (l.getD 0 * sz)))) (q - l.getD 0) (m - l.getD 0) → (av.bd n = true ∧ av.wf) → X av → OpQ P o a β n F X := by
        intro av e1 e2 e3
        refine opPure (av := av) hx' (fun H' _ => ?_) e2 e3
        rw [h1]
        unfold Instr.sliceAt
        refine wpB (wp_underlying hd (wpB (wp_sureAddr (wpB (k2 H' (wpB (wp_sizeOf hs ⟨e1.symm, rfl⟩)))))))
      cases l with
      | none => exact go (.sl (some ad) q m) (by simp only [AV.val, Option.getD_none, Nat.zero_mul, Nat.sub_zero]; simp [Addr.add]) ⟨rfl, trivial⟩ k1
      | some l => exact go (.sl (some (bif Nat.beq m l then ad else ad.add (l * sz))) (q - l) (m - l)) (by simp only [AV.val, Option.getD_some, ofs_beq]) ⟨rfl, trivial⟩ k1
    · exact .inr hv
  · exact .inr hv

/-! ### composites -/
theorem fill_fold (off : Nat) : ∀ (vs : List Value) (k : Nat) (l : List Value), off + k + vs.length ≤ l.length →
    (vs.zipIdx k).foldl (fun (cs : Array Value) (x : Value × Nat) => cs.setIfInBounds (off + x.2) x.1) l.toArray = (splice l (off + k) vs).toArray
  | [], k, l, _ => by simp only [List.zipIdx_nil, List.foldl_nil, splice_nil]
  | v :: vs, k, l, h => by
    simp only [List.length_cons] at h
    simp only [List.zipIdx_cons, List.foldl_cons]
    have e1 : l.toArray.setIfInBounds (off + k) v = (l.set (off + k) v).toArray := by simp
    rw [e1, fill_fold off vs (k + 1) _ (by rw [List.length_set]; omega), ← Nat.add_assoc, splice_cons _ _ _ _ (by omega)]

theorem fill_cons {place : Nat → Option (Nat × Nat)} {l vs : List Value} {i off sz : Nat} {v : Value} {rest : List (Nat × Value)} (hp : place i = some (off, sz)) (hv : v.cells = vs.toArray) (hs : vs.length = sz) (hl : off + vs.length ≤ l.length) :
    Instr.fill place l.toArray ((i, v) :: rest) = Instr.fill place (splice l off vs).toArray rest := by
  have := fill_fold off vs 0 l (by omega)
  rw [Nat.add_zero] at this
  have hn : ¬ (off + vs.length > l.length) := by omega
  conv => lhs; unfold Instr.fill
  simp only [hp, hv, List.size_toArray, hs]
  rw [hs] at hn
  simp only [ne_eq, not_true_eq_false, decide_false, hn, Bool.or_self, Bool.false_eq_true, if_false]
  rw [← this]
  congr 1
  rw [← Array.foldl_toList]
  simp

theorem splice_one {l : List Value} {p : Nat} {v : Value} (h : p < l.length) : splice l p [v] = l.set p v := by
  rw [← splice_cons l p v [] h, splice_nil]

theorem bld_out (hE : RelE β n e a) {pl : Nat → Option (Nat × Nat)} {X : List AV → Prop} : ∀ {parts : List (Nat × Operand)} {cs : List AV}, bdL n cs = true → wfL cs → bld pl e parts cs X →
    ∃ r, Instr.fill pl (cellsL β cs).toArray (parts.map fun x => (x.1, a.eval x.2)) = some (cellsL β r).toArray ∧ (bdL n r = true ∧ wfL r) ∧ X r
  | [], cs, h1, h2, hv => ⟨cs, rfl, ⟨h1, h2⟩, hv⟩
  | (i, x) :: parts, cs, h1, h2, hv => by
    unfold bld at hv
    cases hp : pl i with
    | none => simp only [hp] at hv
    | some z =>
      obtain ⟨off, sz⟩ := z
      simp only [hp] at hv
      cases hz : Nat.beq sz 0 with
      | true => simp only [hz, cond_true] at hv
      | false =>
        simp only [hz, cond_false] at hv
        have hz' : sz ≠ 0 := Nat.ne_of_beq_eq_false hz
        split at hv
        · exact hv.elim
        · rename_i vs hx
          obtain ⟨x1, x2, x3⟩ := hE.ev hx
          cases hw : Nat.beq (widthL vs) sz with
          | false => simp only [hw, cond_false] at hv
          | true =>
            simp only [hw, cond_true] at hv
            have hlen : (cellsL β vs).length = sz := (widthL_len x3).trans (Nat.eq_of_beq_eq_true hw)
            obtain ⟨k1, r, k2, k3, k4, k5⟩ := wrMany_sound (β := β) cs off 0 vs _ h1 h2 x2 x3 hv
            have hne : vs ≠ [] := by rintro rfl; exact hz' hlen.symm
            obtain ⟨r', q1, q2, q3⟩ := bld_out hE k3.1 k3.2 k5
            refine ⟨r', ?_, q2, q3⟩
            rw [List.map_cons, fill_cons (vs := cellsL β vs) hp (by rw [x1]; rfl) hlen (by have := k1 hne; omega), ← q1, k2, Nat.add_zero]
        · rename_i v _ hx
          obtain ⟨x1, x2, x3⟩ := hE.ev hx
          cases hs : (v.sc && Nat.beq sz 1) with
          | false => simp only [hs, cond_false] at hv
          | true =>
            simp only [hs, cond_true] at hv
            simp only [Bool.and_eq_true] at hs
            obtain ⟨hs, hlen⟩ := hs
            have hlen := Nat.eq_of_beq_eq_true hlen
            obtain ⟨k1, r, k2, k3, k4⟩ := wrOne_sound (β := β) hs x2 x3 cs off 0 _ h1 h2 hv
            obtain ⟨r', q1, q2, q3⟩ := bld_out hE k3.1 k3.2 k4
            refine ⟨r', ?_, q2, q3⟩
            rw [List.map_cons, fill_cons (vs := [v.val β]) hp (by rw [x1, cells_val, sc_cs hs, sc_cells hs]) hlen.symm (by simp only [List.length_singleton]; omega), ← q1, k2, Nat.add_zero, splice_one (by omega)]

theorem wp_places : ∀ {l : List Field} {fs : List (Nat × Nat × Nat)} {Q : List (Nat × Nat) → Hp → Prop} {E : Halt → Hp → Prop}, l.length = fs.length →
    (∀ (f off ft sz : Nat), fs[f]? = some (off, ft, sz) → ∃ x : Field, l[f]? = some x ∧ x.offset = off ∧ x.type = ft ∧ SizeIs P ft sz) → Q (fs.map fun x => (x.1, x.2.2)) H →
    wp P (l.mapM fun f => do pure (f.offset, ← sizeOf f.type)) H Q E
  | [], fs, Q, E, hl, _, hq => by
    have : fs = [] := List.eq_nil_of_length_eq_zero hl.symm
    subst this
    exact hq
  | x :: l, [], Q, E, hl, _, hq => by simp at hl
  | x :: l, (off, ft, sz) :: fs, Q, E, hl, hf, hq => by
    rw [List.mapM_cons]
    obtain ⟨y, h1, h2, h3, h4⟩ := hf 0 off ft sz rfl
    simp only [List.getElem?_cons_zero, Option.some.injEq] at h1
    subst h1
    refine wpB (wpB (wp_sizeOf (by rw [h3]; exact h4) (wpP (wpB (wp_places (by simpa using hl) (fun f off ft sz h => hf (f + 1) off ft sz (by simpa using h)) (wpP ?_))))))
    rw [h2]; exact hq

theorem op_build (hT : TabOK P T) {X : AV → Prop} {F : List (Nat × Obj)} {t : TypeId} {parts : Array (Nat × Operand)} (ho : o.op = .build t parts) (hE : RelE β n e a)
    (hv : match T.ty t with
    | some ⟨.struct fs, _, _, z⟩ => bld (fun i => (fs[i]?).map fun x => (x.1, x.2.2)) e parts.toList z (fun cs => X (.agg cs))
    | some ⟨.array _ _ sz, _, _, z⟩ => bld (fun i => some (i * sz, sz)) e parts.toList z (fun cs => X (.agg cs))
    | _ => False) : OpQ P o a β n F X := by
  have hx' : execOp a.eval o = (do pure (.value (← Instr.build t (parts.map fun (i, x) => (i, a.eval x))))) := by unfold execOp; rw [ho]
  have hparts : (parts.map fun (i, x) => (i, a.eval x)).toList = parts.toList.map fun x => (x.1, a.eval x.2) := by simp
  split at hv
  · rename_i fs _ _ z ht
    obtain ⟨_, ⟨inf, zv, hi, hz, hc, hb, hw⟩, d, hd, _, Fs, rfl, hsz, hF⟩ := hT.ty t _ ht
    obtain ⟨r, h1, h2, h3⟩ := bld_out (β := β) hE (bdL_mono (Nat.zero_le _) _ hb) hw hv
    refine opPure (av := .agg r) hx' (fun H' _ => ?_) h2 h3
    unfold Instr.build
    refine wpB (show wp P (zeroValue t) H' _ _ from wpB (wp_typeInfo hi ?_))
    rw [hz]
    refine wpP (wpB (wp_underlying hd ?_))
    simp only
    rw [Array.mapM_eq_mapM_toList]
    rw [← bind_pure_comp]
    refine wpB (wpB (wp_places (by simpa using hsz) (fun f off ft sz h => by simpa using hF f off ft sz h) (wpP ?_)))
    have : (fun (x : Nat) => ((fs.map fun (y : Nat × Nat × Nat) => (y.1, y.2.2)).toArray)[x]?) = fun i => (fs[i]?).map fun x => (x.1, x.2.2) := by
      funext i; simp
    rw [hparts, this, hc, cellsL_of_closed hb id β, h1]
    exact ⟨rfl, rfl⟩
  · rename_i m el sz _ _ z ht
    obtain ⟨_, ⟨inf, zv, hi, hz, hc, hb, hw⟩, d, hd, _, rfl, hs⟩ := hT.ty t _ ht
    obtain ⟨r, h1, h2, h3⟩ := bld_out (β := β) hE (bdL_mono (Nat.zero_le _) _ hb) hw hv
    refine opPure (av := .agg r) hx' (fun H' _ => ?_) h2 h3
    unfold Instr.build
    refine wpB (show wp P (zeroValue t) H' _ _ from wpB (wp_typeInfo hi ?_))
    rw [hz]
    refine wpP (wpB (wp_underlying hd ?_))
    refine wpB (wp_sizeOf hs ?_)
    rw [hparts, hc, cellsL_of_closed hb id β, h1]
    exact ⟨rfl, rfl⟩
  · exact hv.elim

theorem nilQ {X : AV → Prop} {Y : Prop} (hn : pdQ e o.op = []) (hq : OpQ P o a β n [] X ∨ Y) : (∃ F, PdOK β b h (pdQ e o.op) F ∧ OpQ P o a β n F X) ∨ Y :=
  hq.imp (fun hq => ⟨[], by rw [hn]; rfl, hq⟩) (fun h => h)

/-- The operations that leave all as1 it is. -/
theorem vcQ_sound (hT : TabOK P T) {X : AV → Prop} {other : Prop} (hE : RelE β n e a) (hB : RelB β n b h H) (hv : vcQ T o.op e b h X other) : (∃ F, PdOK β b h (pdQ e o.op) F ∧ OpQ P o a β n F X) ∨ other := by
  obtain ⟨dst, op, type, pos, after, guard⟩ := o
  cases op <;> simp only [vcQ] at hv
  case load t x =>
    cases ht : T.ty t with
    | none => simp only [ht] at hv
    | some i => simp only [ht] at hv; exact .inl (op_load hT rfl hE hB ht hv)
  all_goals try exact .inr hv
  case move x => split at hv; · rename_i hx; exact nilQ rfl (.inl (op_move (.inl rfl) hE hx hv))
                 · exact hv.elim
  case assign x => split at hv; · rename_i hx; exact nilQ rfl (.inl (op_move (.inr rfl) hE hx hv))
                   · exact hv.elim
  case pick c x y =>
    split at hv
    · rename_i t hc; exact nilQ rfl (.inl (op_pick rfl hE hc hv))
    · exact hv.elim
  case binOp op t x y ty =>
    split at hv
    · rename_i u hx
      split at hv
      · rename_i v hy
        exact nilQ rfl (op_bin (o := ⟨dst, .binOp op t x y ty, type, pos, after, guard⟩) hT rfl hE hx hy hv)
      · exact hv.elim
    · exact hv.elim
  case unOp op t x =>
    split at hv
    · rename_i t hx
      split at hv
      · exact nilQ rfl (.inl (op_un (w := .bool (!t)) rfl hE hx rfl ⟨rfl, trivial⟩ hv))
      · exact hv.elim
    · rename_i k i hx
      split at hv
      · exact nilQ rfl (.inl (op_un (w := .int k (k.wrap (0 - i))) rfl hE hx rfl ⟨rfl, trivial⟩ hv))
      · exact .inr hv
    · exact .inr hv
  case indexAddr t x i => exact nilQ rfl (.inl (op_index hT rfl hE hv))
  case fieldAddr t x f =>
    split at hv
    · rename_i fs _ _ _ ht
      split at hv
      · rename_i off ft sz hf
        cases hz : Nat.beq sz 0 with
        | true => simp only [hz, cond_true] at hv
        | false =>
          simp only [hz, cond_false] at hv
          split at hv
          · rename_i id of ad hx
            obtain ⟨h1, h2, h3⟩ := hE.ev hx
            refine nilQ rfl (.inl (op_field hT (av := .bptr id (of + off) ad) rfl ht hf hz h1 ?_ ⟨h2, trivial⟩ hv))
            simp only [AV.val, add_off]
            rw [show of + ad + off = of + off + ad from by omega]
          · rename_i ad hx
            obtain ⟨h1, h2, h3⟩ := hE.ev hx
            exact nilQ rfl (.inl (op_field hT (av := .ptr (ad.add off)) rfl ht hf hz h1 rfl ⟨rfl, trivial⟩ hv))
          · exact hv.elim
      · exact hv.elim
    · exact hv.elim
  case nilCheck x =>
    split at hv
    · rename_i ad hx
      obtain ⟨h1, h2⟩ := hE.ev hx
      refine nilQ rfl (.inl (opValue (o := ⟨dst, .nilCheck x, type, pos, after, guard⟩) (av := .ptr ad) (v := a.eval x) ?_ h1 h2 hv))
      unfold execOp; simp only [h1, AV.val]
    · rename_i id of ad hx
      obtain ⟨h1, h2⟩ := hE.ev hx
      refine nilQ rfl (.inl (opValue (o := ⟨dst, .nilCheck x, type, pos, after, guard⟩) (av := .bptr id of ad) (v := a.eval x) ?_ h1 h2 hv))
      unfold execOp; simp only [h1, AV.val]
    · exact .inr hv
  case convert s d x =>
    split at hv
    · rename_i k _ _ _ ht
      split at hv
      · rename_i k' i hx
        obtain ⟨h1, h2⟩ := hE.ev hx
        split at hv
        · rename_i ti hs
          obtain ⟨_, _, d', hd', _, hD'⟩ := hT.ty _ _ ht
          obtain ⟨_, _, s', hs', _, _⟩ := hT.ty _ _ hs
          cases hD'
          refine nilQ rfl (.inl (opPure (o := ⟨dst, .convert s d x, type, pos, after, guard⟩) (s := convert s d (a.eval x)) (av := .int k (k.wrap i)) rfl (fun H' _ => ?_) ⟨rfl, trivial⟩ hv))
          rw [h1]
          unfold convert
          refine wpB (wp_underlying hs' (wpB (wp_underlying hd' ?_)))
          exact ⟨rfl, rfl⟩
        · exact hv.elim
      · exact .inr hv
    · exact .inr hv
  case makeFunc f first cap =>
    split at hv
    · rename_i as1 ha
      split at hv
      · rename_i bs hb
        obtain ⟨a1, a2, a3⟩ := hE.evs ha
        obtain ⟨b1, b2, b3⟩ := hE.evs hb
        refine nilQ rfl (.inl (opPure (o := ⟨dst, .makeFunc f first cap, type, pos, after, guard⟩) (s := Instr.makeFunc f (first.map a.eval) (cap.map a.eval)) (av := .fn f as1 bs) rfl (fun H' _ => ?_) ⟨by simp only [AV.bd, a2, b2]; rfl, a3, b3⟩ hv))
        refine ⟨?_, rfl⟩
        simp only [AV.val, ← a1, ← b1]
        have hm : ∀ xs : Array Operand, xs.map a.eval = (xs.toList.map a.eval).toArray := fun xs => by rw [← Array.toList_map]
        rw [hm, hm]
      · exact hv.elim
    · exact hv.elim
  case extract t i =>
    split at hv
    · rename_i vs hx
      split at hv
      · rename_i v hi
        obtain ⟨h1, h2, h3⟩ := hE.ev hx
        have hm : v ∈ vs := List.mem_of_getElem? hi
        refine nilQ rfl (.inl (opPure (o := ⟨dst, .extract t i, type, pos, after, guard⟩) (s := Instr.extract (a.eval t) i) (av := v) rfl (fun H' _ => ?_) ⟨bdL_mem h2 hm, wfL_mem h3 hm⟩ hv))
        rw [h1]
        simp only [Instr.extract, AV.val, List.getElem?_toArray, valsL_get hi]
        exact ⟨rfl, rfl⟩
      · exact hv.elim
    · exact hv.elim
  case slice t x lo hi mx =>
    cases mx with
    | some y => exact .inr hv
    | none => exact nilQ rfl (op_slice (o := ⟨dst, .slice t x lo hi none, type, pos, after, guard⟩) hT rfl hE hv)
  case build t parts => exact nilQ rfl (.inl (op_build (o := ⟨dst, .build t parts, type, pos, after, guard⟩) hT rfl hE hv))
  case call c =>
    split at hv
    · rename_i hc
      split at hv
      · rename_i x ha
        split at hv
        · rename_i t ht
          split at hv
          · rename_i el z _ _ _ hi
            split at hv
            · rename_i p l q hx; exact nilQ rfl (.inl (op_len (o := ⟨dst, .call c, type, pos, after, guard⟩) hT rfl hc ha ht hi hE hx (.inl ⟨⟨_, _, rfl⟩, _, _, rfl⟩) hv))
            · rename_i p l q hx; exact nilQ rfl (.inl (op_len (o := ⟨dst, .call c, type, pos, after, guard⟩) hT rfl hc ha ht hi hE hx (.inl ⟨⟨_, _, rfl⟩, _, _, rfl⟩) hv))
            · exact .inr hv
          · rename_i hi
            split at hv
            · rename_i s hx; exact nilQ rfl (.inl (op_len (o := ⟨dst, .call c, type, pos, after, guard⟩) hT rfl hc ha ht hi hE hx (.inr ⟨⟨_, rfl, rfl⟩, rfl⟩) hv))
            · exact .inr hv
          · exact .inr hv
        · exact hv.elim
      · exact hv.elim
    · exact .inr hv

theorem cellsL_append : ∀ xs ys : List AV, cellsL β (xs ++ ys) = cellsL β xs ++ cellsL β ys
  | [], ys => rfl
  | x :: xs, ys => by
    have ih := cellsL_append xs ys
    cases x <;> simp only [List.cons_append, cellsL, ih, List.append_assoc]

theorem rep_cells {m : Nat} {z : List AV} : cellsL β (rep m z) = (List.replicate m (cellsL β z)).flatten := by
  unfold rep
  cases m with
  | zero => rfl
  | succ m =>
    have gen : ∀ (m : Nat) (z : List AV), cellsL β (List.replicate m z).flatten = (List.replicate m (cellsL β z)).flatten := by
      intro m z
      induction m with
      | zero => rfl
      | succ m ih => simp only [List.replicate_succ, List.flatten_cons, cellsL_append, ih]
    simp only
    split
    · rename_i k
      simp only [cellsL, List.append_nil, ints, List.map_replicate]
      rw [show (AV.int k 0).val β = .int k 0 from rfl]
      generalize m + 1 = m
      induction m with
      | zero => rfl
      | succ m ih => simp only [List.replicate_succ, List.flatten_cons, ← ih]; rfl
    · exact gen _ _
theorem rep_ok {m k : Nat} {z : List AV} (hb : bdL k z = true) (hw : wfL z) : bdL k (rep m z) = true ∧ wfL (rep m z) := by
  unfold rep
  cases m with
  | zero => exact ⟨rfl, trivial⟩
  | succ m =>
    have gen : ∀ m, bdL k (List.replicate m z).flatten = true ∧ wfL (List.replicate m z).flatten := by
      intro m
      induction m with
      | zero => exact ⟨rfl, trivial⟩
      | succ m ih => simp only [List.replicate_succ, List.flatten_cons]; exact ⟨bdL_append hb ih.1, wfL_append hw ih.2⟩
    simp only
    split
    · exact ⟨rfl, by simp [wfL, AV.wf]⟩
    · exact gen _

theorem rows_eq (m sz : Nat) (z : List Value) (hz : z.length = sz) (hs : sz ≠ 0) : (Array.range (m * sz)).map (z.toArray[· % z.toArray.size]!) = ((List.replicate m z).flatten).toArray := by
  have hlen : ∀ m, ((List.replicate m z).flatten).length = m * sz := fun m => by simp [hz]
  have get : ∀ (m i : Nat), i < m * sz → ((List.replicate m z).flatten)[i]? = z[i % sz]? := by
    intro m
    induction m with
    | zero => intro i hi; simp at hi
    | succ m ih =>
      intro i hi
      simp only [List.replicate_succ, List.flatten_cons]
      by_cases h1 : i < sz
      · rw [List.getElem?_append_left (by omega), Nat.mod_eq_of_lt h1]
      · rw [List.getElem?_append_right (by omega), hz, ih (i - sz) (by rw [Nat.succ_mul] at hi; omega)]
        congr 1
        rw [Nat.mod_eq_sub_mod (by omega : i ≥ sz)]
  apply Array.ext
  · simp [hz]
  · intro i h1 h2
    simp only [Array.size_map, Array.size_range] at h1
    have hg := get m i h1
    have hm : i % sz < z.length := by rw [hz]; exact Nat.mod_lt _ (Nat.pos_of_ne_zero hs)
    have h2' : i < ((List.replicate m z).flatten).length := by rw [hlen]; exact h1
    rw [List.getElem?_eq_getElem hm, List.getElem?_eq_getElem h2'] at hg
    simp only [Array.getElem_map, Array.getElem_range, List.size_toArray, hz, List.getElem_toArray]
    rw [Option.some.inj hg]
    simp [hm]

theorem op_buildSlice (hT : TabOK P T) {t : TypeId} {len el sz : Nat} {sz0 : Nat} {ag : Bool} {z : List AV} {i : TI} {parts : Array (Nat × Operand)} (ho : o.op = .buildSlice t len parts) (hE : RelE β n e a) (hB : RelB β n b h H)
    (ht : T.ty t = some ⟨.slice el sz, sz0, ag, z⟩) (hi : T.ty el = some i) (hl : (Nat.ble (len * sz) (2 ^ 24) && Nat.beq (widthL i.zero) sz) = true)
    (hv : bld (fun i => some (i * sz, sz)) e parts.toList (rep len i.zero) (fun cs => K (.bsl n 0 0 len len) e (n + 1) ((n, el, cs) :: b) h pd)) : OpG P main o a H (PostK P a β b h pd K) := by
  have hx' : execOp a.eval o = (do pure (.value (← Instr.buildSlice t len (parts.map fun (i, x) => (i, a.eval x))))) := by unfold execOp; rw [ho]
  have hparts : (parts.map fun (i, x) => (i, a.eval x)).toList = parts.toList.map fun x => (x.1, a.eval x.2) := by simp
  obtain ⟨_, _, d, hd, _, rfl, hs⟩ := hT.ty t _ ht
  obtain ⟨hs2, ⟨inf, zv, hinf, hz, hc, hb, hw⟩, _⟩ := hT.ty el _ hi
  have hsz : sz = i.size := by
    obtain ⟨j, j1, rfl⟩ := hs
    obtain ⟨j', j2, j3⟩ := hs2
    rw [j1] at j2; cases j2; exact j3
  obtain ⟨r, h1, h2, h3⟩ := bld_out (β := β) hE (rep_ok (m := len) (bdL_mono (Nat.zero_le _) _ hb) hw).1 (rep_ok (m := len) (bdL_mono (Nat.zero_le n) _ hb) hw).2 hv
  simp only [Bool.and_eq_true] at hl
  have hzl : (cellsL β i.zero).length = sz := (widthL_len hw).trans (Nat.eq_of_beq_eq_true hl.2)
  left
  rw [hx']
  unfold Instr.buildSlice
  refine wpB (wpB (wp_underlying hd (wpB (wp_sizeOf hs ?_))))
  have hle : ¬ (len * sz > 2 ^ 24) := by have := Nat.le_of_ble_eq_true hl.1; omega
  simp only [hle, if_false]
  have fin : ∀ zc : Array Value, (Array.range (len * sz)).map (zc[· % zc.size]!) = (cellsL β (rep len i.zero)).toArray →
      wp P (do
        let some cells := Instr.fill (fun i => some (i * sz, sz)) ((Array.range (len * sz)).map (zc[· % zc.size]!)) (parts.map fun (i, x) => (i, a.eval x)).toList
          | stuck "buildSlice: a part of the wrong size"
        pure (Value.slice (some (← newRow el cells)) len len)) H (fun v h' => wp P (pure (Next.value v)) h' (fun nx H' => (∃ v, nx = .value v ∧ PostK P a β b h pd K v H') ∨ (nx = .skip ∧ PostK P a β b h pd K undef H')) (fun _ _ => False)) (fun _ _ => False) := by
    intro zc hzc
    rw [hzc, hparts, h1]
    refine wpB (show wp P (newRow el (cellsL β r).toArray) H _ _ from ?_)
    intro rr hr
    refine .inl ⟨_, rfl, upB β n rr, .bsl n 0 0 len len, e, n + 1, (n, el, r) :: b, h, pd, ?_, ⟨by simp [AV.bd], trivial⟩, hE.newBox rr, ?_, fun L hL => hL.newBox hB, h3⟩
    · simp [AV.val, upB]
    · exact hB.newBox hr el r h2.1 h2.2
  by_cases h0 : len * sz = 0
  · simp only [h0, if_true]
    refine wpB (wpP ?_)
    have := fin #[] ?_
    · rw [h0] at this; exact this
    · rw [h0, rep_cells]
      rcases Nat.mul_eq_zero.1 h0 with rfl | rfl
      · simp
      · have : cellsL β i.zero = [] := List.eq_nil_of_length_eq_zero hzl
        rw [this]; simp
  · simp only [h0, if_false]
    refine wpB (show wp P (zeroValue el) H _ _ from wpB (wp_typeInfo hinf ?_))
    rw [hz]
    refine wpP (wpB (wpP (fin zv.cells ?_)))
    rw [hc, cellsL_of_closed hb _root_.id β, rep_cells]
    exact rows_eq len sz _ hzl (fun e0 => h0 (by rw [e0, Nat.mul_zero]))

theorem vcOp_sound (hT : TabOK P T) (hE : RelE β n e a) (hB : RelB β n b h H) (hv : vcOp P main T o e n b h pd K) : OpG P main o a H (PostK P a β b h pd K) := by
  have oth : (∀ cs bl, o.op ≠ .select cs bl) → (match evs e o.op.operands.toList with
      | some vs => revL (idsL vs) e b h vs pd (fun e b h vs pd => bif bdL 0 vs then OpX P (execOp (fun x => ((ev e x).getD .nilp).val id) o) h pd (fun r h' => K r e n b h' pd) else False)
      | none => False) → OpG P main o a H (PostK P a β b h pd K) := fun hp hv => otherX hE hB hp hv
  have quiet : (∀ cs bl, o.op ≠ .select cs bl) → vcQ T o.op e b h (fun v => K v e n b h pd) (match evs e o.op.operands.toList with
      | some vs => revL (idsL vs) e b h vs pd (fun e b h vs pd => bif bdL 0 vs then OpX P (execOp (fun x => ((ev e x).getD .nilp).val id) o) h pd (fun r h' => K r e n b h' pd) else False)
      | none => False) → OpG P main o a H (PostK P a β b h pd K) := by
    intro hp hv
    rcases vcQ_sound hT hE hB hv with ⟨F, h1, h2⟩ | h1
    · exact h2.toG (h1.held hB) hE hB
    · exact oth hp h1
  obtain ⟨dst, op, type, pos, after, guard⟩ := o
  cases op <;> simp only [vcOp, quietOp, cond_true, cond_false] at hv
  case box t x => split at hv; · rename_i v hx; exact op_box rfl hE hB hx hv
                  · exact hv.elim
  case alloc t => split at hv; · rename_i i ht; exact op_alloc hT rfl hE hB ht hv
                  · exact hv.elim
  case buildSlice t len parts =>
    split at hv
    · rename_i el sz _ _ _ ht
      split at hv
      · rename_i i hi
        cases hl : (Nat.ble (len * sz) (2 ^ 24) && Nat.beq (widthL i.zero) sz) with
        | false => simp only [hl, cond_false] at hv
        | true => simp only [hl, cond_true] at hv; exact op_buildSlice (o := ⟨dst, .buildSlice t len parts, type, pos, after, guard⟩) hT rfl hE hB ht hi hl hv
      · exact hv.elim
    · exact hv.elim
  case store t x y =>
    cases ht : T.ty t with
    | none => simp only [ht] at hv
    | some i =>
      simp only [ht] at hv
      cases hx : ev e x with
      | none => simp only [hx] at hv; exact oth (by intro _ _ h; cases h) hv
      | some u =>
        simp only [hx] at hv
        cases u
        case bptr id of ad =>
          simp only at hv
          cases hy : ev e y with
          | none => simp only [hy] at hv
          | some v =>
            simp only [hy] at hv
            cases hl : lkB b id with
            | none => simp only [hl] at hv
            | some z => obtain ⟨Ty, cs⟩ := z; simp only [hl] at hv; exact op_storeBox hT rfl hE hB ht hx hy hl hv
        all_goals exact oth (by intro _ _ h; cases h) hv
  case call c =>
    split at hv
    · rename_i f hc
      split at hv
      · rename_i g first cap hf
        cases hgo : T.go g with
        | false => simp only [hgo, Bool.not_false, cond_true] at hv; exact oth (by intro _ _ h; cases h) hv
        | true =>
          rw [hgo] at hv
          simp only [Bool.not_true, cond_false] at hv
          cases ha : evs e c.args.toList with
          | none => simp only [ha] at hv
          | some vs =>
            simp only [ha] at hv
            exact op_call hT rfl hc hE hB hf ha (by rw [hgo]; exact hv)
      · exact hv.elim
    · exact quiet (by intro _ _ h; cases h) hv
    · exact oth (by intro _ _ h; cases h) hv
    · exact hv.elim
  all_goals first
    | exact quiet (by intro _ _ h; cases h) hv
    | exact oth (by intro _ _ h; cases h) hv
end
end Go.Proofs.YtfiephhdkloaeaaGreat.Ch
end
