/- From the contract of a call, valid in any company, to a row about a call that stays alone. -/
import Derived.Test.YtfiephhdkloaeaaGreatA4
import Derived.Conc.LoneCalls
import Derived.Conc.Holds
import Derived.JoinedCond
import Derived.ReadAgain
import Derived.ProofKit
import Derived.ChangeSame
import Derived.OpenShut
section
set_option linter.unusedVariables false
namespace Go.Proofs.YtfiephhdkloaeaaGreat.Ch
open Go Go.Conc

theorem Run.solo {P : Program} {Stop : Goroutine → Hp → Prop} {g : Goroutine} {h : Hp} (hr : Run P true Stop g h) : ∀ {W : World}, Sees W h → ∃ n g' h' W', runN P n (Go.Conc.solo g W) = .next (Go.Conc.solo g' W') ∧ Stop g' h' ∧ Did h h' W W' := by
  induction hr with
  | stop hs => intro W hW; exact ⟨0, _, _, W, rfl, hs, Did.refl hW⟩
  | @step g h K hs hm _ ih =>
    intro W hW
    obtain ⟨g1, W1, es, h1, hst, hd, _, hk⟩ := hm W hW
    obtain ⟨n, g', h', W', hn, hS, hd'⟩ := ih g1 h1 hk hd.sees
    refine ⟨n + 1, g', h', W', ?_, hS, hd.trans hd'⟩
    rw [Nat.add_comm, runN_add]
    have : runN P 1 (Go.Conc.solo g W) = .next (Go.Conc.solo g1 W1) := by simp only [runN, step_solo_go hs hst]
    rw [this]; exact hn

theorem CallsV.done {P : Program} {f : FuncId} {args : List AV} {h : Hp} {R : AV → Hp → Prop} (hc : CallsV P true f args h R) (hi : P.inits.idxOf? f = none) {W : World} (hW : Sees W h) :
    ∃ n fr W1 W2 r h' h2, runN P n (lone (Frame.enter P f (valsL id args).toArray .normal) [] W) = .next (lone fr [] W1) ∧
      runN P (n + 1) (lone (Frame.enter P f (valsL id args).toArray .normal) [] W) = .ended (.done (r.val id)) W2 ∧ r.bd 0 = true ∧ R r h' ∧ Sub h' h2 ∧ Did h h2 W W2 := by
  have hrun := hc .normal (fun g h1 => ∃ e fr, g = G fr [] ∧ (∃ (r : AV) (h' : Hp), (∀ c x, h' c = some x → h1 c = some x) ∧ r.bd 0 = true ∧ r.wf ∧ e = .ret (r.val id) ∧ R r h') ∧ Leaving P fr h1 e ∧ fr.fn = f ∧ fr.kind = .normal) [] (by simp)
    (fun e fr h' h1 h2 h3 h4 => .stop ⟨e, fr, rfl, h1, h2, h3, h4⟩)
  obtain ⟨n, g', h1, W1, hn, ⟨e, fr, rfl, ⟨r, h', hsub, r1, r2, rfl, hR⟩, hl, hfn, hk⟩, hd⟩ := hrun.solo hW
  obtain ⟨hm, hdf, hro, fn, hf, hwp⟩ := hl
  obtain ⟨rr, W2, es, h2, hrun2, hd2, he, hq⟩ := wp_sound _ (hwp h1 fun _ _ h => h) hd.sees
  have hrun0 := hrun2 #[]
  rw [Array.empty_append] at hrun0
  cases rr with
  | halt e w => exact hq.2.elim
  | ok v' w =>
    obtain ⟨rfl, rfl, rfl⟩ := hq
    have hlast : step P (lone fr [] W1) = .ended (.done (r.val id)) w := by
      refine step_lone_ended ?_
      subst hfn
      have hr := congrArg Prod.fst hrun0
      simp at hr
      simp [stepG, hm, unwind, hdf, hf, hr, doReturn, hk, GStep.after, hi]
    refine ⟨n, fr, W1, w, r, h', h2, hn, ?_, r1, hR, hsub, hd.trans hd2⟩
    rw [runN_add]
    have hn' : runN P n (lone (Frame.enter P f (valsL id args).toArray .normal) [] W) = .next (lone fr [] W1) := hn
    rw [hn']
    simp only [runN, hlast]

/-- The whole memory, as1 something to be read. -/
def fragOf (W : World) : Hp := fun b => (W.heap[b]?).map fun o => (false, o)
theorem sees_fragOf (W : World) : Sees W (fragOf W) := fun b p o h => by
  unfold fragOf at h
  cases hh : W.heap[b]? with
  | none => rw [hh] at h; cases h
  | some x => rw [hh] at h; cases h; rfl
theorem did_old {W W' : World} {h' : Hp} (d : Did (fragOf W) h' W W') : ∀ b, b < W.heap.size → W'.heap[b]? = W.heap[b]? := fun b hb => d.keep b hb fun o ho => by
  unfold fragOf at ho
  cases hh : W.heap[b]? with
  | none => rw [hh] at ho; cases ho
  | some x => rw [hh] at ho; cases ho
end Go.Proofs.YtfiephhdkloaeaaGreat.Ch
end

section
set_option linter.unusedVariables false
namespace Go.Proofs.YtfiephhdkloaeaaGreat.Ch
open Go Go.Conc Go.ChangeShapes

theorem leaving_of_cond {H : Type} {enc : TypeId × Value → H} {a : Assume} {C : Checked} {os : Os} {f : FuncId} {fn : Func} {s : OpenSpec} {k : (H : Type) → List (DataW H) → Bool} (hk : s.cond = some k) {F : Stop.Interp} {conds : List PathCond} {apart fresh handsOn again : Bool}
    (own : ownKnob C.prog.godebug = none) (started : os.Started) (hfn : C.prog.funcs[f]? = some fn)
    (witness : ∃ (w : World) (tape : Tape) (i : Input), w.os = os ∧ (w.forCall tape i).Shaped C.prog ∧ i.vars = [] ∧ Input.okWide C.prog (w.forCall tape i) .any w.heap.size f i ∧
      s.pre6 enc C.prog fn conds apart (w.forCall tape i).memory i.args ∧ a.holds C.prog (lone (Frame.enter C.prog f i.args .normal) [] (w.forCall tape i)))
    (runs : ∀ (W : World) (base : Nat) (args : Array Value) (ds gs : List (DataW H)) (before : List MemPlace),
      (∀ (j : Nat) t v, fn.params[j]? = some t → args[j]? = some v → Value.okWide C.prog W .any base t v) →
      DataW.Whole enc C.prog fn.params.toList s.vars apart W args.toList ds gs before → k H (ds ++ gs) = true →
      ∃ n fr W1 v W2, runN C.prog n (lone (Frame.enter C.prog f args .normal) [] W) = .next (lone fr [] W1) ∧ runN C.prog (n + 1) (lone (Frame.enter C.prog f args .normal) [] W) = .ended (.done v) W2 ∧
        (s.at F).post enc C.prog fn apart fresh handsOn again W args v W2) :
    ReturnsInLeavingWide a C os f .any (s.pre6 enc C.prog fn conds apart) ((s.at F).post enc C.prog fn apart fresh handsOn again) := fun enter => by
  obtain ⟨w0, t0, i0, a1, a2, a3, a4, a5, a6⟩ := witness
  refine ⟨enter, own, started, ⟨w0, t0, i0, a1, a2, a3, a4, a5, a6, trivial⟩, fun w tape i h => ?_⟩
  obtain ⟨_, _, _, hok, hpre, _⟩ := h
  obtain ⟨_, _, _, fn', hfn', _, _, _, _, hval⟩ := hok
  have e : fn' = fn := Option.some.inj (hfn'.symm.trans hfn)
  subst e
  obtain ⟨ds, gs, before, hw, hc, hkk⟩ := (OpenSpec.pre_some hk conds apart _ _).1 hpre.1
  have hw' := DataW.Whole.of_heap (w' := w.forCall tape i) (by rfl) hw
  obtain ⟨n, fr, W1, v, W2, hn, hend, hp⟩ := runs (w.forCall tape i) w.heap.size i.args ds gs before hval hw' hkk
  obtain ⟨q1, q2, q3⟩ := alone_of_lone (w' := W2) hn
  exact ⟨n + 1, v, W2, hend, (clean_of_lone hn).2, roomy_placeholder .., ChangeSpec.post_blind hp, ⟨n, _, hn, step_of_runs hn hend, ⟨q2, onlyLeaving_of_quiet q1, q3⟩⟩, fun _ _ _ => trivial⟩

theorem holds_of_cond_leaving {p : Pinned} {s : OpenSpec} {c : OpenClaim} (f : FuncId) (fn : Func)
    (hn : c.program = p.name) (hs : c.sum = p.sum) (hsp : c.spec = s.name)
    (hstart : c.start = .entering) (hout : c.outside = []) (hin : c.inits = []) (hun : c.under = none) (hi4 : c.initsInPlace = [] ∧ c.initsUnfollowed = false ∧ c.initsRecurse = false ∧ c.initsNamed = [] ∧ c.initsPassed = []) (hnb : c.noBlocks = false) (hlv : c.leaving = true) (hfo : c.followed = none) (hnar : c.narrowed = s.cond.isSome) (hstill : c.still = false)
    (hfn : p.checked.prog.funcNamed c.func = some f) (hf : p.checked.prog.funcs[f]? = some fn)
    (closed : joinedFacts p.checked.prog f fn s.bare c = true)
    (hinst : fn.isInstance p.checked.prog c.origin c.targs) (hwrap : fn.isWrapper p.checked.prog c.wrapper c.mainSum)
    (h : ∀ os : Os, os.Started → ∀ (H : Type) (enc : TypeId × Value → H), (∀ a b, enc a = enc b → a = b) → ∀ F : Stop.Interp,
      ReturnsInLeavingWide c.assume p.checked os f .any (c.pre enc p.checked.prog fn s) ((s.at F).post enc p.checked.prog fn c.apart c.fresh c.handsOn c.again)) : c.holds p s := by
  simp only [joinedFacts, Bool.and_eq_true, beq_iff_eq, Array.all_eq_true_iff_forall_mem, List.all_eq_true, decide_eq_true_eq] at closed
  obtain ⟨⟨⟨⟨⟨⟨⟨⟨⟨⟨⟨⟨⟨⟨⟨⟨⟨⟨⟨⟨⟨⟨⟨⟨⟨⟨⟨⟨⟨⟨⟨k1, k2⟩, k3⟩, k4⟩, k5⟩, k6⟩, k7⟩, k8⟩, k9⟩, k10⟩, k11⟩, k12⟩, k13⟩, k14⟩, k15⟩, k16⟩, k17⟩, k17b⟩, k18⟩, k19⟩, k20⟩, k21⟩, k22⟩, k23⟩, k23b⟩, k24⟩, k24b⟩, k24c⟩, k25⟩, k26⟩, k27⟩, k28⟩ := closed
  have hq : ∀ os : Os, Go.Stop.quiet p.checked.prog os := fun os k hk => by rw [k9] at hk; cases hk
  refine ⟨k1, hn, hs, hsp, k2, k3, by unfold OpenClaim.startFits; rw [hstart]; exact k24, by unfold OpenClaim.startTold; rw [hstart]; exact ⟨hin, hun, hi4⟩, f, fn, hfn, hf, ⟨k4, k19⟩, (fun hb => by rw [hnb] at hb; cases hb), by unfold OpenClaim.namedList; rw [hfo]; exact k5, hinst, hwrap,
    k6.trans k7.symm, ⟨k8.trans k9.symm, by unfold Program.envWorded; rw [k9]; rfl, k23b⟩, k10, k11, k12, k13, k14, ⟨k15, k27, k28⟩, ⟨k16, k20⟩, ⟨k17, k21, k25, k26⟩, ⟨k22, k24b, k24c, k17b⟩, (by rw [hout, hnar]; cases hsh : c.shortTexts with | none => simp | some _ => rw [hsh] at k23; cases k23), fun n hn' => varReadable_some (k18 n hn'),
    ⟨_, by unfold OpenClaim.world; rw [hout, hstart]; exact WideRow.started_initial, hq _⟩, [], by unfold OpenClaim.lists; rw [hfo], fun os st _ H enc inj => ?_⟩
  have st' : os.Started := by unfold OpenClaim.world at st; rw [hout, hstart] at st; exact st
  rw [OpenClaim.post_not_still hstill]
  unfold OpenClaim.form
  rw [hstart, k6]
  intro F
  have e1 : c.okInput = Input.okWide := by unfold OpenClaim.okInput; rw [hnb]
  have e2 : c.atReturn p.checked.prog = leavingAtReturn p.checked.prog := by unfold OpenClaim.atReturn; rw [hlv]
  have e3 : c.always p.checked.prog [] = nothingAlways := by unfold OpenClaim.always; rw [hfo]
  have e4 : s.post enc p.checked.prog fn F c.outside c.apart c.fresh c.handsOn c.again = (s.at F).post enc p.checked.prog fn c.apart c.fresh c.handsOn c.again := by rw [hout]; rfl
  rw [e1, e2, e3]
  show ReturnsInOpen _ _ _ _ _ _ _ _ (s.post enc p.checked.prog fn F c.outside c.apart c.fresh c.handsOn c.again) _ _
  rw [e4]
  exact h os st' H enc inj F k24

/-- What stood ahead of the call stands behind it: the law's answer is all that there is. -/
theorem post_of_old {H : Type} {enc : TypeId × Value → H} {P : Program} {T : TypeId → Prop} (K : Kids P T) (hz : ∀ t e, T t → P.underlying t = some (.slice e) → 0 < P.cellsOf e) {f : Func} {s : ChangeSpec} {apart fresh handsOn again : Bool} {W W' : World} {args : Array Value} {v : Value} {ds gs : List (DataW H)} {before : List MemPlace}
    (hW : DataW.Whole enc P f.params.toList s.vars apart W args.toList ds gs before) (hv0 : s.vars = []) (hT : ∀ t ∈ f.params.toList, T t)
    (hsv : (s.fn H (ds ++ gs)).args = ds) (hsv2 : (s.fn H (ds ++ gs)).vars = [])
    (hres : ∀ (b : Nat) (sp : Nat → Bool) (hd : Bool), DataW.TrodAll enc P W' b sp hd f.resultTypes.toList (v.resultList f.resultTypes.size) (s.fn H (ds ++ gs)).results [])
    (hold : ∀ b, b < W.heap.size → W'.heap[b]? = W.heap[b]?) (hos : W'.os = W.os) (hout : W'.output = W.output)
    (hok : ∀ (j : Nat) (t : TypeId) (r : Value), f.resultTypes[j]? = some t → (v.resultList f.resultTypes.size)[j]? = some r → Value.okWide P W' .any 0 t r) :
    s.post enc P f apart fresh handsOn again W args v W' := by
  have hlt : ∀ p ∈ before, p.block < W.heap.size := fun p hp => hW.lt p hp
  have hW' := hW
  obtain ⟨pa, pv, hA, hV, hb, hfz, hn⟩ := hW'
  rw [hv0] at hV
  obtain ⟨rfl, rfl⟩ := trodVars_none hV
  have hpa : before = pa := by rw [hb, List.append_nil]
  subst hpa
  have hkeep : W.keptBut W' (fun _ => False) := by
    refine ⟨hos, hout, fun i hi => ?_⟩
    rw [hold i hi]
    split
    · rename_i c t fr c' t' fr' h1 h2
      rw [h1] at h2; cases h2; exact ⟨rfl, rfl, rfl, fun _ _ => rfl⟩
    · rename_i es cl es' cl' h1 h2
      rw [h1] at h2; cases h2; exact .inr ⟨rfl, rfl⟩
    · rfl
  have hsame : ∀ p ∈ before, W.sameAt W' p := fun p hp => by
    have := hold p.block (hlt p hp)
    cases p <;> simp only [World.sameAt, MemPlace.block, World.cell?] at this ⊢ <;> simp [this]
  have hargs : ∀ sp : Nat → Bool, (∀ p ∈ before, sp p.block = true) → DataW.TrodAll enc P W' 0 sp true f.params.toList args.toList ds before := fun sp hsp => by
    have h1 := DataW.TrodAll.respare K hz hT hA hsp
    have key : ∀ {ts : List TypeId} {vs : List Value} {ds : List (DataW H)} {ps : List MemPlace}, DataW.TrodAll enc P W 0 sp true ts vs ds ps → (∀ p ∈ ps, W.sameAt W' p) → DataW.TrodAll enc P W' 0 sp true ts vs ds ps := by
      intro ts
      induction ts with
      | nil => intro vs ds ps h _; obtain ⟨rfl, rfl, rfl⟩ := trodAll_nil h; exact rfl
      | cons t ts ih =>
        intro vs ds ps h hs
        obtain ⟨v, vs', d, ds', p, q, rfl, rfl, rfl, ⟨n, hn⟩, h2⟩ := trodAll_cons h
        exact ⟨p, q, ⟨n, DataW.trod_carry _ _ _ _ hn fun x hx => hs x (List.mem_append_left _ hx)⟩, ih h2 (fun x hx => hs x (List.mem_append_right _ hx)), rfl⟩
    exact key h1 hsame
  have hold2 : ∀ p ∈ before, (fun b => decide (b < W.heap.size)) p.block = true := fun p hp => by simpa using hlt p hp
  have hvars : ∀ sp : Nat → Bool, DataW.TrodVars enc P W' sp s.vars (s.fn H (ds ++ [])).vars [] := fun sp => by rw [hv0, hsv2]; exact rfl
  refine ⟨ds, [], before, [], before, [], hW, hres _ _ _, ?_, hvars _, World.keptBut_mono (fun p hp => hp.elim) hkeep, fun _ => ?_⟩
  · rw [hsv]; exact hargs _ hold2
  · refine ⟨hok, _, _, ([] ++ before) ++ [], ⟨[] ++ before, [], trodAll_append (by have := hargs (fun _ => true) (fun _ _ => rfl); rw [← hsv] at this; exact this) (hres _ _ _), hvars _, rfl, ?_, ?_⟩, ?_⟩
    · intro b off hp
      have hp' : MemPlace.cell b off ∈ before := by simpa using hp
      have h1 := hold b (hlt _ hp')
      have h2 := hfz b off (by simpa using hp')
      unfold World.frozen? at h2 ⊢
      simp only at h2 ⊢
      rw [h1]; exact h2
    · intro ha; have := hn ha; simpa using this
    · intro p hp _; simpa using hp
end Go.Proofs.YtfiephhdkloaeaaGreat.Ch
end

section
set_option linter.unusedVariables false
namespace Go.Proofs.YtfiephhdkloaeaaGreat.Ch
open Go Go.Conc Go.ChangeShapes
section
variable {H : Type} {enc : TypeId × Value → H} {P : Program} {w : World} {h : Hp}

theorem cell_fragOf {a : Addr} {v : Value} (hc : w.cell? a = some v) : Cell (fragOf w) a v := by
  unfold World.cell? at hc
  split at hc
  · rename_i c e f hh
    cases hs : a.spot with
    | some x => rw [hs] at hc; simp at hc
    | none =>
      rw [hs] at hc
      simp only [Option.isSome_none, Bool.false_eq_true, if_false] at hc
      exact ⟨false, c, e, f, by unfold fragOf; rw [hh]; rfl, hs, hc⟩
  · cases hc
theorem cellsAt_fragOf {base : Nat} {a : Addr} {n : Nat} {cs : List Value} (hc : w.cells? base a n = some cs) : CellsAt (fragOf w) a cs := by
  obtain ⟨_, h1, h2⟩ := World.cells?_some hc
  intro i v hi
  have hl := (List.getElem?_eq_some_iff.1 hi).1
  exact cell_fragOf ((h2 i (by omega)).trans hi)

theorem add_add' (ad : Addr) (i j : Nat) : (ad.add i).add j = ad.add (i + j) := by
  by_cases h1 : i = 0
  · subst h1
    have : ad.add 0 = ad := by simp [Addr.add]
    rw [this, Nat.zero_add]
  · have e1 : ad.add i = ⟨ad.block, ad.off + i, none⟩ := by simp [Addr.add, h1]
    have e2 : ad.add (i + j) = ⟨ad.block, ad.off + (i + j), none⟩ := by simp [Addr.add, h1]
    rw [e1, e2, add_off, Nat.add_assoc]
theorem CellsAt.app {a : Addr} {xs ys : List Value} (h1 : CellsAt h a xs) (h2 : CellsAt h (a.add xs.length) ys) : CellsAt h a (xs ++ ys) := by
  intro i v hi
  by_cases hl : i < xs.length
  · rw [List.getElem?_append_left hl] at hi; exact h1 i v hi
  · rw [List.getElem?_append_right (by omega)] at hi
    have := h2 _ v hi
    rw [add_add'] at this
    rwa [show xs.length + (i - xs.length) = i from by omega] at this

/-- A row of parts. -/
theorem collect {α D : Type} {f : α → List Value} {Q : α → D → Prop} {sz : Nat} {a : Addr} (elems : List D) (hel : ∀ (i : Nat) d, elems[i]? = some d → ∃ y : α, (f y).length = sz ∧ CellsAt h (a.add (i * sz)) (f y) ∧ Q y d) :
    ∃ xs : List α, xs.length = elems.length ∧ CellsAt h a (xs.flatMap f) ∧ ∀ (i : Nat) x, xs[i]? = some x → ∃ d, elems[i]? = some d ∧ Q x d := by
  have key : ∀ k, k ≤ elems.length → ∃ xs : List α, xs.length = k ∧ (xs.flatMap f).length = k * sz ∧ CellsAt h a (xs.flatMap f) ∧ ∀ (i : Nat) x, xs[i]? = some x → ∃ d, elems[i]? = some d ∧ Q x d := by
    intro k
    induction k with
    | zero => intro _; exact ⟨[], rfl, by simp, fun i v hi => by simp at hi, fun i x hi => by simp at hi⟩
    | succ k ih =>
      intro hk
      obtain ⟨xs, h1, h2, h3, h4⟩ := ih (by omega)
      obtain ⟨d, hd⟩ : ∃ d, elems[k]? = some d := ⟨_, List.getElem?_eq_getElem (by omega)⟩
      obtain ⟨y, y1, y2, y3⟩ := hel k d hd
      refine ⟨xs ++ [y], by simp [h1], by rw [List.flatMap_append, List.length_append, h2]; simp [y1, Nat.succ_mul], ?_, fun i x hi => ?_⟩
      · rw [List.flatMap_append]
        refine h3.app ?_
        rw [h2]; simpa using y2
      · by_cases hl : i < xs.length
        · rw [List.getElem?_append_left hl] at hi; exact h4 i x hi
        · rw [List.getElem?_append_right (by omega)] at hi
          have : i - xs.length = 0 := by
            have := (List.getElem?_eq_some_iff.1 hi).1
            simp at this; omega
          rw [this] at hi
          simp at hi; subst hi
          exact ⟨d, by rw [show i = k from by omega]; exact hd, y3⟩
  obtain ⟨xs, h1, _, h3, h4⟩ := key elems.length (Nat.le_refl _)
  exact ⟨xs, h1, h3, h4⟩

/-- A slice that reads. -/
theorem rd_slice {α : Type} {f : α → List Value} {Q : α → DataW H → Prop} {t e : TypeId} {base : Nat} {sp : Nat → Bool} {held : Bool} {n : Nat} {cs : List Value} {x : DataW H × List MemPlace} (ht : P.underlying t = some (.slice e))
    (hr : DataW.trod enc P w base sp held n t cs = some x)
    (hel : ∀ m ys y, DataW.trod enc P w base sp held m e ys = some y → ∃ z : α, ys = f z ∧ Q z y.1) :
    ∃ (a : Option Addr) (cap : Nat) (xs : List α), cs = [.slice a xs.length cap] ∧ SlAt (fragOf w) a (xs.flatMap f) ∧ ((xs = [] ∧ x.1 = .nil) ∨ ∃ elems rest, x.1 = .slice elems rest ∧ xs.length = elems.length ∧ ∀ (i : Nat) z, xs[i]? = some z → ∃ d, elems[i]? = some d ∧ Q z d) := by
  rcases DataW.trod_slice ht hr with ⟨h1, h2⟩ | ⟨a, len, cap, elems, rest, m, h1, h2, h3, h4, h5, h6, h7, h8, h9⟩
  · exact ⟨none, 0, [], h1, .inl rfl, .inl ⟨rfl, by rw [h2]⟩⟩
  · obtain ⟨xs, k1, k2, k3⟩ := collect (h := fragOf w) (f := f) (Q := Q) (sz := P.cellsOf e) (a := a) (elems.map (·.1)) (fun i d hd => by
      rw [List.getElem?_map] at hd
      cases hy : elems[i]? with
      | none => rw [hy] at hd; cases hd
      | some y =>
        rw [hy] at hd
        simp only [Option.map_some, Option.some.injEq] at hd
        have hi : i < len := by have := (List.getElem?_eq_some_iff.1 hy).1; omega
        have := h8 i hi
        rw [hy] at this
        obtain ⟨ys, q1, q2⟩ := Option.bind_eq_some_iff.1 this
        obtain ⟨z, z1, z2⟩ := hel m ys y q2
        subst z1
        exact ⟨z, (World.cells?_some q1).2.1, cellsAt_fragOf q1, by rw [← hd]; exact z2⟩)
    rw [List.length_map] at k1
    refine ⟨some a, cap, xs, by rw [h2, k1, h7], .inr ⟨a, rfl, k2⟩, .inr ⟨_, _, by rw [h3], by rw [List.length_map]; exact k1, k3⟩⟩

theorem rd_int {t : TypeId} {k : IntKind} {base : Nat} {sp : Nat → Bool} {held : Bool} {n : Nat} {cs : List Value} {x : DataW H × List MemPlace} (ht : P.underlying t = some (.int k))
    (hr : DataW.trod enc P w base sp held n t cs = some x) : ∃ z : Int, cs = [.int k z] ∧ (x.1 = .lit (.int k z) ∧ (Lit.int k z).wf = true) := by
  obtain ⟨z, h1, h2, h3⟩ := DataW.trod_int ht hr
  exact ⟨z, h1, by rw [h2], h3⟩

/-- An array of numbers that reads. -/
theorem rd_arr {t e : TypeId} {k : IntKind} {m : Nat} {base : Nat} {sp : Nat → Bool} {held : Bool} {n : Nat} {cs : List Value} {x : DataW H × List MemPlace} (ht : P.underlying t = some (.array m e)) (he : P.underlying e = some (.int k)) (hc : P.cellsOf e = 1)
    (hct : P.cellsOf t = m) (hr : DataW.trod enc P w base sp held n t cs = some x) : ∃ zs : List Int, cs = ints k zs ∧ zs.length = m ∧ ∀ z ∈ zs, (Lit.int k z).wf = true := by
  obtain ⟨xs, m', h1, h2, h3, h4, h5⟩ := DataW.trod_array ht hr
  rw [hc] at h5
  have key : ∀ j, j ≤ m → ∃ zs : List Int, zs.length = j ∧ cs.take j = ints k zs ∧ ∀ z ∈ zs, (Lit.int k z).wf = true := by
    intro j
    induction j with
    | zero => intro _; exact ⟨[], rfl, rfl, fun z hz => by cases hz⟩
    | succ j ih =>
      intro hj
      obtain ⟨zs, k1, k2, k3⟩ := ih (by omega)
      obtain ⟨y, hy⟩ : ∃ y, xs[j]? = some y := ⟨_, List.getElem?_eq_getElem (by omega)⟩
      have := h5 j (by omega)
      rw [hy] at this
      obtain ⟨z, z1, z2, z3⟩ := rd_int he this
      refine ⟨zs ++ [z], by simp [k1], ?_, fun w hw => ?_⟩
      · have e1 : (cs.drop j).take 1 = [.int k z] := by rw [← z1, Nat.mul_one]
        have : cs.take (j + 1) = cs.take j ++ (cs.drop j).take 1 := List.take_add
        rw [this, k2, e1]; simp [ints]
      · rcases List.mem_append.1 hw with hw | hw
        · exact k3 w hw
        · rw [List.mem_singleton.1 hw]; exact z3
  obtain ⟨zs, k1, k2, k3⟩ := key m (Nat.le_refl _)
  exact ⟨zs, by rw [← k2, List.take_of_length_le (by omega)], k1, k3⟩
theorem wf_u8 {z : Int} (h : (Lit.int .u8 z).wf = true) : 0 ≤ z ∧ z < 256 := by
  simp only [Lit.wf, IntKind.min, IntKind.max, IntKind.signed, IntKind.bits, Bool.and_eq_true, decide_eq_true_eq] at h
  simp at h
  omega
end
end Go.Proofs.YtfiephhdkloaeaaGreat.Ch
end
