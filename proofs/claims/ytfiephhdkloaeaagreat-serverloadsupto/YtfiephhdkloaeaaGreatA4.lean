/- What a walk uses. -/
import Derived.Test.YtfiephhdkloaeaaGreatA3
import Derived.IntWalk
section
set_option linter.unusedVariables false
namespace Go.Proofs.YtfiephhdkloaeaaGreat.Ch
open Go Go.Conc

theorem br {b : Bool} {p q : Prop} (h1 : b = true → p) (h2 : b = false → q) : brc b p q := by
  cases b
  · exact h2 rfl
  · exact h1 rfl

theorem LoopE.go {F : SP → SP} {ι : Type} (E : ι → Env) (N : Nat) (B : ι → Bx) (Hh : ι → Hp) (pre : ι → Prop) (μ : ι → Nat) (i0 : ι) (p0 : pre i0)
    (step : ∀ (X : SP) i, pre i → (∀ j, pre j → μ j < μ i → X (E j) N (B j) (Hh j)) → F X (E i) N (B i) (Hh i)) : LoopE F (E i0) N (B i0) (Hh i0) := by
  refine ⟨fun X hX => ?_⟩
  have key : ∀ m i, μ i < m → pre i → X (E i) N (B i) (Hh i) := by
    intro m
    induction m with
    | zero => intro i hi; exact absurd hi (Nat.not_lt_zero _)
    | succ m ih => intro i hi hp; exact hX _ _ _ _ (step X i hp fun j hj hlt => ih j (Nat.lt_of_lt_of_le hlt (Nat.le_of_lt_succ hi)) hj)
  exact key (μ i0 + 1) i0 (Nat.lt_succ_self _) p0

theorem WkE.loop {F : SP → SP} {e : Env} {b : Bx} {h : Hp} {ι : Type} (E : ι → Env) (N : Nat) (B : ι → Bx) (Hh : ι → Hp) (pre : ι → Prop) (μ : ι → Nat) (i0 : ι) (p0 : pre i0) (h0 : Hh i0 = h)
    (hE : KeepE e (E i0)) (hB : KeepB b (B i0)) (h1 : bdE N (E i0) = true) (h2 : bdB N (B i0) = true)
    (step : ∀ (X : SP) i, pre i → (∀ j, pre j → μ j < μ i → X (E j) N (B j) (Hh j)) → F X (E i) N (B i) (Hh i)) : WkE (LoopE F) e b h := by
  subst h0
  exact ⟨E i0, N, B i0, hE, hB, h1, h2, LoopE.go E N B Hh pre μ i0 p0 step⟩

theorem WkE.next {X : SP} {e : Env} {b : Bx} {h : Hp} (E : Env) (N : Nat) (B : Bx) (hE : KeepE e E) (hB : KeepB b B) (h1 : bdE N E = true) (h2 : bdB N B = true) (hX : X E N B h) : WkE X e b h :=
  ⟨E, N, B, hE, hB, h1, h2, hX⟩

end Go.Proofs.YtfiephhdkloaeaaGreat.Ch
end

section
set_option linter.unusedVariables false
namespace Go.Proofs.YtfiephhdkloaeaaGreat.Ch
open Go Go.Conc
section
variable {P : Program} {main : Bool} {T : Tab} {h : Hp}

theorem growBy_le (newLen : Nat) : ∀ (r c : Nat), c ≤ newLen → Builtin.growBy newLen r c ≤ 2 * newLen + 192
  | 0, c, hc => by simp only [Builtin.growBy]; omega
  | r + 1, c, hc => by
    simp only [Builtin.growBy]
    split
    · omega
    · rename_i h1
      by_cases h2 : c + (c + 768) / 4 ≤ newLen
      · exact growBy_le newLen r _ h2
      · have : ∀ r, Builtin.growBy newLen r (c + (c + 768) / 4) = c + (c + 768) / 4 := by
          intro r
          cases r with
          | zero => rfl
          | succ r => simp only [Builtin.growBy]; rw [if_pos (by omega)]
        rw [this]; omega
theorem nextslicecap_le (n c : Nat) (h : c < n) : Builtin.nextslicecap n c ≤ 2 * n + 512 := by
  unfold Builtin.nextslicecap
  split
  · omega
  · split
    · omega
    · have := growBy_le n 4 c (by omega); omega

/-- The cells of a slice. -/
def SlAt (h : Hp) (a : Option Addr) (vs : List Value) : Prop := vs = [] ∨ ∃ ad, a = some ad ∧ CellsAt h ad vs

theorem wp_loadCells' {ad : Addr} {vs : List Value} {m : Nat} {Q : Array Value → Hp → Prop} {E : Halt → Hp → Prop} (hl : vs.length = m) (hc : SlAt h (some ad) vs) (hq : Q vs.toArray h) : wp P (loadCells ad m) h Q E := by
  refine wp_loadCells hl ?_ hq
  rcases hc with rfl | ⟨ad', h1, h2⟩
  · intro i v hi; simp at hi
  · cases h1; exact h2

theorem wp_firstCells {a : Option Addr} {n c sz : Nat} {vs : List Value} {Q : Array Value → Hp → Prop} {E : Halt → Hp → Prop} (hl : vs.length = n * sz) (hc : SlAt h a vs) (hq : Q vs.toArray h) :
    wp P (Builtin.firstCells sz n (.slice a n c)) h Q E := by
  cases a with
  | none =>
    rcases hc with rfl | ⟨ad', h1, _⟩
    · exact hq
    · cases h1
  | some ad => exact wp_loadCells' hl hc hq

theorem wp_mark {m : Mark} {Q : Unit → Hp → Prop} {E : Halt → Hp → Prop} (hm : neutral m = true) (hq : Q () h) : wp P (mark m) h Q E := ⟨hm, hq⟩
theorem wp_askRoom {n : Nat} {Q : Unit → Hp → Prop} {E : Halt → Hp → Prop} (hq : Q () h) : wp P (askRoom n) h Q E := by
  unfold askRoom
  split
  · exact wp_mark rfl hq
  · exact hq

/-- append, no matter whether there is room. -/
theorem wp_append (hT : TabOK P T) {st xt el el2 : TypeId} {sz sz2 s1 s2 : Nat} {a1 a2 : Bool} {z1 z2 : List AV} {i : TI} {ty : TypeId} (hst : T.ty st = some ⟨.slice el sz, s1, a1, z1⟩) (hxt : T.ty xt = some ⟨.slice el2 sz2, s2, a2, z2⟩) (hel : T.ty el = some i)
    {base xa : Option Addr} {sLen sCap n xc : Nat} {old xs : List Value} {Q : Value → Hp → Prop} {E : Halt → Hp → Prop}
    (ho : old.length = sLen * sz) (hoa : SlAt h base old) (hx : xs.length = n * sz) (hxa : SlAt h xa xs) (hn : sLen + n ≤ 2 ^ 30) (hz : sz ≤ 512)
    (fit : sLen + n ≤ sCap → (n = 0 → Q (.slice base sLen sCap) h) ∧ (n ≠ 0 → wp P (do
      if let some a := base then storeCells (a.add (sLen * sz)) xs
      pure (Value.slice base (sLen + n) sCap)) h Q E))
    (grow : sCap < sLen + n → ∀ newCap, sLen + n ≤ newCap → ∀ tail : List Value, tail.length = (newCap - (sLen + n)) * sz → ∀ r, h r = none →
      Q (.slice (some ⟨r, 0, none⟩) (sLen + n) newCap) (h.set r (true, .cells (old ++ xs ++ tail).toArray el (0, 0)))) :
    wp P (Builtin.append_ #[st, xt] ty #[.slice base sLen sCap, .slice xa n xc]) h Q E := by
  obtain ⟨_, _, d, hd, _, rfl, hsz⟩ := hT.ty st _ hst
  obtain ⟨_, _, d2, hd2, _, rfl, _⟩ := hT.ty xt _ hxt
  obtain ⟨hszi, ⟨inf, z, hinf, hzero, hcells, _, _⟩, _⟩ := hT.ty el _ hel
  obtain ⟨inf', hinf', hbytes, z', hz', hzs⟩ := hT.bytes el _ hel
  rw [hinf] at hinf'; cases hinf'
  rw [hzero] at hz'; cases hz'
  have hsi : sz = i.size := by
    obtain ⟨j, j1, rfl⟩ := hsz
    obtain ⟨j', j2, j3⟩ := hszi
    rw [j1] at j2; cases j2; exact j3
  unfold Builtin.append_
  refine wpB (wp_underlying hd ?_)
  refine wpB (wp_sizeOf hsz ?_)
  refine wpB (wp_underlying hd2 (wpB (wpP ?_)))
  refine wpB (wpP ?_)
  have fc : ∀ {H' : Hp} {Q : Array Value → Hp → Prop} {E : Halt → Hp → Prop}, SlAt H' xa xs → Q xs.toArray H' → wp P (Builtin.firstCells sz n (.slice xa n xc)) H' Q E := fun h1 h2 => wp_firstCells hx h1 h2
  by_cases hfit : sLen + n ≤ sCap
  · simp only [hfit, if_true]
    obtain ⟨f0, f1⟩ := fit hfit
    refine wpB (fc hxa ?_)
    by_cases hn0 : n = 0
    · subst hn0
      have : xs = [] := List.eq_nil_of_length_eq_zero (by simpa using hx)
      subst this
      cases base with
      | none => exact f0 rfl
      | some a => exact f0 rfl
    · have := f1 hn0
      cases base with
      | none => exact this
      | some a => exact this
  · simp only [hfit, if_false]
    have hlt : sCap < sLen + n := by omega
    have hnc := nextslicecap_le (sLen + n) sCap hlt
    have hroom : ¬ (Builtin.nextslicecap (sLen + n) sCap * inf.bytes > 2 ^ 48) := by
      have h1 : inf.bytes ≤ 16416 := by omega
      have h2 : Builtin.nextslicecap (sLen + n) sCap ≤ 2147484160 := by omega
      have := Nat.mul_le_mul h2 h1
      omega
    have hmax : ¬ (((sLen + n : Nat) : Int) > IntKind.i64.max ∧ (False ∨ inf.bytes = 0)) := by
      intro hh
      have : IntKind.i64.max = 9223372036854775807 := by decide
      rw [this] at hh
      omega
    refine wpB (wp_typeInfo hinf ?_)
    simp only [Bool.false_eq_true] at hmax ⊢
    rw [if_neg hmax]
    refine wpB (wp_typeInfo hinf ?_)
    rw [if_neg hroom]
    refine wpB (show wp P (choose _) h _ _ from ⟨fun hf => (by cases hf), fun _ t => ?_⟩)
    generalize hcap : (Question.appendCap (sLen + n) sCap el).cut t = newCap
    have hge : sLen + n ≤ newCap := by rw [← hcap]; simp only [Question.cut]; omega
    refine wpB (wp_typeInfo hinf (wpB (wp_askRoom ?_)))
    refine wpB (wp_firstCells ho hoa (wpB (fc hxa ?_)))
    refine wpB (show wp P (zeroValue el) h _ _ from wpB (wp_typeInfo hinf ?_))
    rw [hzero]
    refine wpP (wpB ?_)
    intro r hr
    have := grow hlt newCap hge (Builtin.zeroCells z.cells (newCap - (sLen + n))).toList ?_ r hr
    · have e1 : (old ++ xs ++ (Builtin.zeroCells z.cells (newCap - (sLen + n))).toList).toArray = old.toArray ++ xs.toArray ++ Builtin.zeroCells z.cells (newCap - (sLen + n)) := by
        apply Array.ext'
        simp
      rw [e1] at this
      exact this
    · simp [Builtin.zeroCells, hzs, hsi]
end
end Go.Proofs.YtfiephhdkloaeaaGreat.Ch
end

section
set_option linter.unusedVariables false
namespace Go.Proofs.YtfiephhdkloaeaaGreat.Ch
open Go Go.Conc
section
variable {P : Program} {main : Bool} {T : Tab} {h h0 : Hp} {pd : List AV} {K : AV → Hp → Prop}

theorem CallsV.mono {f : FuncId} {args : List AV} {R R' : AV → Hp → Prop} (hc : CallsV P main f args h R) (hr : ∀ r h', r.bd 0 = true → r.wf → R r h' → R' r h') : CallsV P main f args h R' :=
  CallsL.mono hc fun e h1 ⟨r, h', h2, h3, h4, h5, h6⟩ => ⟨r, h', h2, h3, h4, h5, hr r h' h3 h4 h6⟩
theorem CallE.of {f : FuncId} {args : List AV} {R : AV → Hp → Prop} (hc : CallsV P main f args h R) (hr : ∀ r h', r.bd 0 = true → r.wf → R r h' → KeepH pd h h' ∧ K r h') : CallE P main f args h pd K := ⟨hc.mono hr⟩

theorem KeepH.same (h : Hp) : ∀ pd : List AV, KeepH pd h h
  | [] => trivial
  | .ptr _ :: r => ⟨rfl, KeepH.same h r⟩
  | .int .. :: r | .bool .. :: r | .str .. :: r | .nilp :: r | .sl .. :: r | .map .. :: r | .chan .. :: r | .nilf :: r | .nili :: r | .bptr .. :: r | .bsl .. :: r | .run .. :: r | .agg .. :: r | .tup .. :: r | .fn .. :: r | .iface .. :: r => KeepH.same h r
/-- A call that answers v and leaves all as1 it is. -/
def Ans (P : Program) (m : Bool) (f : FuncId) (args : List AV) (h : Hp) (v : AV) : Prop := CallsV P m f args h (fun r h' => r = v ∧ h' = h)
theorem Ans.E {f : FuncId} {args : List AV} {v : AV} (hc : Ans P main f args h v) (hK : K v h) : CallE P main f args h pd K :=
  CallE.of hc (by rintro r h' - - ⟨rfl, rfl⟩; exact ⟨KeepH.same _ _, hK⟩)
/-- .. where it is a truth value. -/
theorem Ans.B {f : FuncId} {args : List AV} {b : Bool} (hc : Ans P main f args h (.bool b)) (h1 : b = true → K (.bool true) h) (h2 : b = false → K (.bool false) h) : CallE P main f args h pd K :=
  CallE.of hc (by rintro r h' - - ⟨rfl, rfl⟩; refine ⟨KeepH.same _ _, ?_⟩; cases b; exact h2 rfl; exact h1 rfl)

/-- A slice of one's own: its block is not in h0. -/
def Own (h0 h : Hp) (v : AV) (len : Nat) (el : TypeId) (sz : Nat) (xs : List Value) : Prop :=
  xs.length = len * sz ∧ ∃ a cap, v = .sl a len cap ∧ ((a = none ∧ len = 0 ∧ cap = 0) ∨
    ∃ blk tail, a = some ⟨blk, 0, none⟩ ∧ h0 blk = none ∧ h blk = some (true, .cells (xs ++ tail).toArray el (0, 0)) ∧ tail.length = (cap - len) * sz ∧ len ≤ cap)

theorem Own.nil {el sz : Nat} : Own h0 h (.sl none 0 0) 0 el sz [] := ⟨by simp, none, 0, rfl, .inl ⟨rfl, rfl, rfl⟩⟩

theorem cellsAt_of_block {blk : Nat} {p : Bool} {c : List Value} {Ty : TypeId} {f : Nat × Nat} (hb : h blk = some (p, .cells c.toArray Ty f)) {vs : List Value} {off : Nat} (hv : ∀ i v, vs[i]? = some v → c[off + i]? = some v) : CellsAt h ⟨blk, off, none⟩ vs := by
  intro i v hi
  rw [add_off]
  exact ⟨p, _, Ty, f, hb, rfl, by simpa using hv i v hi⟩

theorem Own.slAt {v : AV} {len el sz : Nat} {xs : List Value} {a : Option Addr} {cap : Nat} (ho : Own h0 h v len el sz xs) (hv : v = .sl a len cap) : SlAt h a xs := by
  obtain ⟨hl, a', cap', e1, h1⟩ := ho
  rw [hv] at e1
  cases e1
  rcases h1 with ⟨rfl, rfl, rfl⟩ | ⟨blk, tail, rfl, h2, h3, h4, h5⟩
  · left; exact List.eq_nil_of_length_eq_zero (by simpa using hl)
  · right
    refine ⟨_, rfl, cellsAt_of_block h3 fun i w hi => ?_⟩
    rw [Nat.zero_add, List.getElem?_append_left (List.getElem?_eq_some_iff.1 hi).1]; exact hi

theorem CellsAt.up {h' : Hp} (hs : Sub h h') {a : Addr} {vs : List Value} (hc : CellsAt h a vs) : CellsAt h' a vs := fun i v hi => by
  obtain ⟨p, c, e, f, h1, h2, h3⟩ := hc i v hi
  exact ⟨p, c, e, f, hs _ _ h1, h2, h3⟩
theorem SlAt.up {h' : Hp} (hs : Sub h h') {a : Option Addr} {vs : List Value} (hc : SlAt h a vs) : SlAt h' a vs := by
  rcases hc with rfl | ⟨ad, h1, h2⟩
  · exact .inl rfl
  · exact .inr ⟨ad, h1, h2.up hs⟩

theorem sub_set_of_none {b : Nat} {x : Bool × Obj} (hs : Sub h0 h) (hb : h0 b = none) : Sub h0 (h.set b x) := fun c y hc => by
  have : c ≠ b := fun e => by rw [e, hb] at hc; cases hc
  rw [Hp.set_ne _ _ this]; exact hs c y hc
theorem none_of_sub {b : Nat} (hs : Sub h0 h) (hb : h b = none) : h0 b = none := by
  cases hh : h0 b with
  | none => rfl
  | some x => rw [hs b x hh] at hb; cases hb

/-- append to a slice of one's own. -/
theorem OpX.appendOwn (hT : TabOK P T) {ρ : Operand → Value} {o : Oper} {c : Call} {x y : Operand} {st xt el el2 : TypeId} {sz sz2 s1 s2 : Nat} {a1 a2 : Bool} {z1 z2 : List AV} {i : TI} (ho : o.op = .call c) (hc : c.callee = .builtin .append)
    (hargs : c.args = #[x, y]) (hts : c.argTypes = #[st, xt]) (hst : T.ty st = some ⟨.slice el sz, s1, a1, z1⟩) (hxt : T.ty xt = some ⟨.slice el2 sz2, s2, a2, z2⟩) (hel : T.ty el = some i)
    {v : AV} {len n xc : Nat} {xa : Option Addr} {old xs : List Value} (hx : ρ x = v.val id) (hy : ρ y = .slice xa n xc) (hs : Sub h0 h) (hown : Own h0 h v len el sz old) (hxl : xs.length = n * sz) (hxa : SlAt h xa xs)
    (hsc : ∀ w ∈ xs, scalar w = true) (hn : len + n ≤ 2 ^ 30) (hz : sz ≤ 512)
    (hK : ∀ v' h', Own h0 h' v' (len + n) el sz (old ++ xs) → Sub h0 h' → (∀ b, h0 b = h b → (∀ blk, v ≠ .sl (some ⟨blk, 0, none⟩) len (match v with | .sl _ _ c => c | _ => 0) ∨ b ≠ blk) → h b ≠ none → h' b = h b) → KeepH pd h h' ∧ K v' h') :
    OpX P (execOp ρ o) h pd K := by
  obtain ⟨hl, a, cap, rfl, hcase⟩ := hown
  have hex : execOp ρ o = (do pure (.value (← Builtin.append_ #[st, xt] o.type #[.slice a len cap, .slice xa n xc]))) := by
    unfold execOp
    simp only [ho]
    unfold resolve
    simp only [hc, hargs, hts, List.map_toArray, List.map_cons, List.map_nil, hx, hy]
    rfl
  refine ⟨?_⟩
  rw [hex]
  have hoa : SlAt h a old := Own.slAt ⟨hl, a, cap, rfl, hcase⟩ rfl
  have fin : ∀ v' h', v'.bd 0 = true → v'.wf → KeepH pd h h' ∧ K v' h' → wp P (pure (Next.value (v'.val id))) h' (fun nx h' => ∃ r : AV, r.bd 0 = true ∧ r.wf ∧ (nx = .value (r.val id) ∨ nx = .skip ∧ r = .tup []) ∧ KeepH pd h h' ∧ K r h') (fun _ _ => False) :=
    fun v' h' h1 h2 h3 => ⟨v', h1, h2, .inl rfl, h3.1, h3.2⟩
  refine wpB (wp_append hT hst hxt hel hl hoa hxl hxa hn hz (fun hfit => ⟨fun h0' => ?_, fun hne => ?_⟩) ?_)
  · subst h0'
    have hxs : xs = [] := List.eq_nil_of_length_eq_zero (by simpa using hxl)
    subst hxs
    refine fin (.sl a len cap) h rfl trivial (hK _ _ ?_ hs ?_)
    · rw [List.append_nil, Nat.add_zero]; exact ⟨hl, a, cap, rfl, hcase⟩
    · intros; rfl
  · rcases hcase with ⟨rfl, rfl, rfl⟩ | ⟨blk, tail, rfl, h2, h3, h4, h5⟩
    · omega
    · refine wpB ?_
      have hlen : len * sz + xs.length ≤ (old ++ tail).length := by
        rw [List.length_append, hl, h4, hxl, ← Nat.add_mul, ← Nat.add_mul]
        exact Nat.mul_le_mul_right _ (by omega)
      have e0 : (⟨blk, 0, none⟩ : Addr).add (len * sz) = ⟨blk, 0 + len * sz, none⟩ := add_off _ _ _
      rw [e0]
      have hkey : wp P (storeCells ⟨blk, 0 + len * sz, none⟩ xs) h (fun _ h' => h' = h.set blk (true, .cells (splice (old ++ tail) (0 + len * sz) xs).toArray el (0, 0))) (fun _ _ => False) := by
        have := wp_storeCells (P := P) (E := fun _ _ => False) (Q := fun _ h' => h' = h.set blk (true, .cells (splice (old ++ tail) (0 + len * sz) xs).toArray el (0, 0))) xs 0 (blk := blk) (o := 0 + len * sz) (Ty := el) (old ++ tail) h h3 (fun _ => by omega) hsc
        exact this rfl
      refine wp_mono _ ?_ (fun _ _ h => h) hkey
      rintro _ h' rfl
      refine fin (.sl (some ⟨blk, 0, none⟩) (len + n) cap) _ rfl trivial (hK _ _ ?_ (sub_set_of_none hs h2) ?_)
      · refine ⟨by rw [List.length_append, hl, hxl, Nat.add_mul], _, cap, rfl, .inr ⟨blk, tail.drop xs.length, rfl, h2, ?_, ?_, hfit⟩⟩
        · rw [Hp.set_same]
          congr 4
          rw [Nat.zero_add, ← hl]
          simp only [splice, List.take_left, List.drop_append]
          simp
        · rw [List.length_drop, h4, hxl, ← Nat.sub_mul]; congr 1; omega
      · intro b _ hb _
        rcases hb blk with hb | hb
        · exact absurd rfl hb
        · rw [Hp.set_ne _ _ hb]
  · intro hlt newCap hge tail htl r hr
    refine fin (.sl (some ⟨r, 0, none⟩) (len + n) newCap) _ rfl trivial (hK _ _ ?_ (sub_set_of_none hs (none_of_sub hs hr)) ?_)
    · exact ⟨by rw [List.length_append, hl, hxl, Nat.add_mul], _, newCap, rfl, .inr ⟨r, tail, rfl, none_of_sub hs hr, Hp.set_same _ _ _, htl, hge⟩⟩
    · intro b _ _ hb
      have : b ≠ r := fun e => hb (by rw [e]; exact hr)
      rw [Hp.set_ne _ _ this]
end
end Go.Proofs.YtfiephhdkloaeaaGreat.Ch
end

section
set_option linter.unusedVariables false
namespace Go.Proofs.YtfiephhdkloaeaaGreat.Ch
open Go Go.Conc
section
variable {P : Program} {main : Bool} {T : Tab} {h h0 : Hp} {pd : List AV} {K : AV → Hp → Prop}

theorem wp_makeSlice (hT : TabOK P T) {st el : TypeId} {sz s1 : Nat} {a1 : Bool} {z1 : List AV} {i : TI} (hst : T.ty st = some ⟨.slice el sz, s1, a1, z1⟩) (hel : T.ty el = some i)
    {k1 k2 : IntKind} {l c : Nat} {Q : Value → Hp → Prop} {E : Halt → Hp → Prop} (hlc : l ≤ c) (hc : c ≤ 2 ^ 30) (hz : sz ≤ 512)
    (hq : ∀ r, h r = none → Q (.slice (some ⟨r, 0, none⟩) l c) (h.set r (true, .cells ((List.replicate c (cellsL id i.zero)).flatten).toArray el (0, 0)))) :
    wp P (Instr.makeSlice st (.int k1 l) (.int k2 c)) h Q E := by
  obtain ⟨_, _, d, hd, _, rfl, hsz⟩ := hT.ty st _ hst
  obtain ⟨hszi, ⟨inf, z, hinf, hzero, hcells, hbz, hwz⟩, _⟩ := hT.ty el _ hel
  obtain ⟨inf', hinf', hbytes, z', hz', hzs⟩ := hT.bytes el _ hel
  rw [hinf] at hinf'; cases hinf'
  rw [hzero] at hz'; cases hz'
  have hsi : sz = i.size := by
    obtain ⟨j, j1, rfl⟩ := hsz
    obtain ⟨j', j2, j3⟩ := hszi
    rw [j1] at j2; cases j2; exact j3
  have hzl : (cellsL id i.zero).length = sz := by
    have : z.cells.size = (cellsL id i.zero).length := by rw [hcells]; simp
    omega
  unfold Instr.makeSlice
  refine wpB (wp_underlying hd ?_)
  refine wpB (show wp P (asInt (.int k1 l)) h _ _ from wpP (wpB (show wp P (asInt (.int k2 c)) h _ _ from wpP ?_)))
  refine wpB (wp_typeInfo hinf ?_)
  have hwl : IntKind.i64.wrap (l : Int) = l := by rw [IntWalk.i64_in _ (by omega)]
  have hwc : IntKind.i64.wrap (c : Int) = c := by rw [IntWalk.i64_in _ (by omega)]
  have hmul : inf.bytes * c ≤ 16416 * 1073741824 := Nat.mul_le_mul (by omega) (by omega)
  have hbig : ¬ ((inf.bytes : Int) * (c : Int) > 2 ^ 48) := by
    have : ((inf.bytes * c : Nat) : Int) = (inf.bytes : Int) * (c : Int) := by simp
    rw [← this]; omega
  have hcond : ((decide ((c : Int) < 0) || decide ((inf.bytes : Int) * (c : Int) > 2 ^ 48)) || decide ((l : Int) < 0) || decide ((l : Int) > (c : Int))) = false := by
    simp only [hbig, decide_false, Bool.or_false, Bool.or_eq_false_iff, decide_eq_false_iff_not]
    omega
  simp only [hwl, hwc]
  rw [if_neg (by rw [hcond]; simp)]
  refine wpB (wp_askRoom ?_)
  refine wpB (wp_sizeOf hsz ?_)
  simp only [Int.toNat_natCast]
  have fin : ∀ zc : Array Value, (Array.range (c * sz)).map (zc[· % zc.size]!) = ((List.replicate c (cellsL id i.zero)).flatten).toArray →
      wp P (do let a ← newRow el ((Array.range (c * sz)).map (zc[· % zc.size]!)); pure (Value.slice (some a) l c)) h Q E := by
    intro zc hzc
    rw [hzc]
    refine wpB ?_
    intro r hr
    exact hq r hr
  by_cases h0 : c * sz = 0
  · simp only [h0, if_true]
    refine wpB (wpP ?_)
    have := fin #[] ?_
    · rw [h0] at this; exact this
    · rw [h0]
      rcases Nat.mul_eq_zero.1 h0 with rfl | rfl
      · simp
      · have : cellsL id i.zero = [] := List.eq_nil_of_length_eq_zero hzl
        rw [this]; simp
  · simp only [h0, if_false]
    refine wpB (show wp P (zeroValue el) h _ _ from wpB (wp_typeInfo hinf ?_))
    rw [hzero]
    refine wpP (wpB (wpP (fin z.cells ?_)))
    rw [hcells]
    exact rows_eq c sz _ hzl (fun e0 => h0 (by rw [e0, Nat.mul_zero]))

/-- A new slice of one's own. -/
theorem OpX.makeOwn (hT : TabOK P T) {ρ : Operand → Value} {o : Oper} {x y : Operand} {st el : TypeId} {sz s1 : Nat} {a1 : Bool} {z1 : List AV} {i : TI} (ho : o.op = .makeSlice st x y)
    (hst : T.ty st = some ⟨.slice el sz, s1, a1, z1⟩) (hel : T.ty el = some i) {k1 k2 : IntKind} {l c : Nat} (hx : ρ x = .int k1 l) (hy : ρ y = .int k2 c) (hs : Sub h0 h) (hlc : l ≤ c) (hc : c ≤ 2 ^ 30) (hz : sz ≤ 512)
    (hK : ∀ v' h', Own h0 h' v' l el sz ((List.replicate l (cellsL id i.zero)).flatten) → Sub h0 h' → (∀ b, h b ≠ none → h' b = h b) → KeepH pd h h' ∧ K v' h') : OpX P (execOp ρ o) h pd K := by
  obtain ⟨_, _, d, hd, _, rfl, hsz⟩ := hT.ty st _ hst
  obtain ⟨hszi, ⟨inf, z, hinf, hzero, hcells, hbz, hwz⟩, _⟩ := hT.ty el _ hel
  obtain ⟨inf', hinf', hbytes, z', hz', hzs⟩ := hT.bytes el _ hel
  rw [hinf] at hinf'; cases hinf'
  rw [hzero] at hz'; cases hz'
  have hsi : sz = i.size := by
    obtain ⟨j, j1, rfl⟩ := hsz
    obtain ⟨j', j2, j3⟩ := hszi
    rw [j1] at j2; cases j2; exact j3
  have hzl : (cellsL id i.zero).length = sz := by
    have : z.cells.size = (cellsL id i.zero).length := by rw [hcells]; simp
    omega
  refine ⟨?_⟩
  have hex : execOp ρ o = (do pure (.value (← Instr.makeSlice st (.int k1 l) (.int k2 c)))) := by unfold execOp; rw [ho]; simp only [hx, hy]
  rw [hex]
  refine wpB (wp_makeSlice hT hst hel hlc hc hz fun r hr => ?_)
  have := hK (.sl (some ⟨r, 0, none⟩) l c) (h.set r (true, .cells ((List.replicate c (cellsL id i.zero)).flatten).toArray el (0, 0))) ?_ (sub_set_of_none hs (none_of_sub hs hr)) ?_
  · exact ⟨.sl (some ⟨r, 0, none⟩) l c, rfl, trivial, .inl rfl, this.1, this.2⟩
  · refine ⟨by simp [hzl], _, c, rfl, .inr ⟨r, (List.replicate (c - l) (cellsL id i.zero)).flatten, rfl, none_of_sub hs hr, ?_, by simp [hzl], hlc⟩⟩
    rw [Hp.set_same, ← List.flatten_append, List.replicate_append_replicate, show l + (c - l) = c from by omega]
  · intro b hb
    have : b ≠ r := fun e => hb (by rw [e]; exact hr)
    rw [Hp.set_ne _ _ this]
end
end Go.Proofs.YtfiephhdkloaeaaGreat.Ch
end

section
set_option linter.unusedVariables false
namespace Go.Proofs.YtfiephhdkloaeaaGreat.Ch
open Go Go.Conc
section
variable {P : Program} {main : Bool} {T : Tab} {h h0 : Hp} {pd : List AV} {K : AV → Hp → Prop}

theorem wp_eqArr {t el m : TypeId} {k : IntKind} {xs ys : List Int} {Q : Bool → Hp → Prop} {E : Halt → Hp → Prop} (hd : P.underlying t = some (.array m el)) (he : P.underlying el = some (.int k)) (hs : SizeIs P el 1)
    (hx : xs.length = m) (hy : ys.length = m) (hq : Q (decide (xs = ys)) h) : wp P (Op.equal t (.agg (ints k xs).toArray) (.agg (ints k ys).toArray)) h Q E := by
  unfold Op.equal Op.maxDepth Op.equalIn
  refine wpB (wp_underlying hd ?_)
  refine wpB (wp_sizeOf hs ?_)
  simp only [Std.Legacy.Range.forIn_eq_forIn_range', Std.Legacy.Range.size, Nat.sub_zero, Nat.add_one_sub_one, Nat.div_one, Nat.add_sub_cancel]
  have hpart : ∀ (zs : List Int) (i : Nat) (hi : i < zs.length) {Q : Value → Hp → Prop} {E : Halt → Hp → Prop}, Q (.int k zs[i]) h → wp P (part el (ints k zs).toArray (i * 1)) h Q E := by
    intro zs i hi Q E hq
    unfold part
    refine wpB (wp_isAgg he ?_)
    simp only [aggD, Bool.false_eq_true, if_false, Nat.mul_one]
    have : (ints k zs).toArray[i]? = some (.int k zs[i]) := by simp [ints, hi]
    rw [this]
    exact hq
  have key : ∀ (n i : Nat), i + n = m → ∀ {Q : Option Bool × Unit → Hp → Prop} {E : Halt → Hp → Prop},
      Q (if xs.drop i = ys.drop i then (none, ()) else (some false, ())) h →
      wp P (forIn (List.range' i n) ((none, ()) : Option Bool × Unit) fun i (_ : Option Bool × Unit) => do
        let x ← part el (ints k xs).toArray (i * 1)
        let y ← part el (ints k ys).toArray (i * 1)
        let r ← Op.equalIn 9999 el x y
        if (!r) = true then pure (ForInStep.done (some false, ())) else pure (ForInStep.yield (none, ()))) h Q E := by
    intro n
    induction n with
    | zero =>
      intro i hi Q E hq
      have e1 : xs.drop i = [] := List.drop_of_length_le (by omega)
      have e2 : ys.drop i = [] := List.drop_of_length_le (by omega)
      rw [e1, e2] at hq
      simp only [if_true] at hq
      exact hq
    | succ n ih =>
      intro i hi Q E hq
      have h1 : i < xs.length := by omega
      have h2 : i < ys.length := by omega
      rw [List.range'_succ, List.forIn_cons]
      refine wpB (wpB (hpart xs i h1 (wpB (hpart ys i h2 (wpB ?_)))))
      unfold Op.equalIn
      refine wpB (wp_underlying he ?_)
      simp only [if_true]
      refine wpP ?_
      rw [List.drop_eq_getElem_cons h1, List.drop_eq_getElem_cons h2] at hq
      by_cases hxy : xs[i] = ys[i]
      · simp only [hxy, beq_self_eq_true, Bool.not_true, Bool.false_eq_true, if_false]
        refine wpP (ih (i + 1) (by omega) ?_)
        by_cases hd : xs.drop (i + 1) = ys.drop (i + 1)
        · rw [if_pos hd]; rw [if_pos (by rw [hxy, hd])] at hq; exact hq
        · rw [if_neg hd]; rw [if_neg (fun e => hd (List.cons.inj e).2)] at hq; exact hq
      · have : (xs[i] == ys[i]) = false := by simpa using hxy
        simp only [this, Bool.not_false, if_true]
        refine wpP (wpP ?_)
        have hne : ¬ (xs[i] :: xs.drop (i + 1) = ys[i] :: ys.drop (i + 1)) := fun e => hxy (List.cons.inj e).1
        rw [if_neg hne] at hq
        exact hq
  refine wpB (key m 0 (by omega) ?_)
  rw [List.drop_zero, List.drop_zero]
  by_cases hxy : xs = ys
  · rw [if_pos hxy]
    simp only [hxy, decide_true] at hq
    exact hq
  · rw [if_neg hxy]
    simp only [hxy, decide_false] at hq
    exact hq

theorem wp_eqGuardArr {op : BinOp} {t : TypeId} {x y : Operand} {a b : Array Value} {Q : Unit → Hp → Prop} {E : Halt → Hp → Prop} (hg : P.eqGuardType P.depth t = false) (hq : Q () h) : wp P (eqGuard op t x y (.agg a) (.agg b)) h Q E := by
  unfold eqGuard
  cases op <;> first
    | exact hq
    | (refine wpB (show wp P program h _ _ from ?_)
       show wp P (if (!P.eqGuardType P.depth t) = true then _ else _) h Q E
       rw [hg]
       exact hq)

/-- '==' of two such arrays, whatever lies in memory. -/
theorem eqArr (hT : TabOK P T) {ρ : Operand → Value} {o : Oper} {t el m : TypeId} {ty : TypeId} {s1 s2 : Nat} {a1 a2 : Bool} {z1 z2 : List AV} {k : IntKind} {x y : Operand} {xs ys : List Int} (ho : o.op = .binOp .eql t x y ty)
    (ht : T.ty t = some ⟨.array m el 1, s1, a1, z1⟩) (hel : T.ty el = some ⟨.int k, s2, a2, z2⟩) (hg : P.eqGuardType P.depth t = false)
    (hx : ρ x = .agg (cellsL id [.run k m xs]).toArray) (hy : ρ y = .agg (cellsL id [.run k m ys]).toArray) (hxl : xs.length = m) (hyl : ys.length = m) (h : Hp) :
    wp P (execOp ρ o) h (fun nx h' => nx = .value ((AV.bool (decide (xs = ys))).val id) ∧ h' = h) (fun _ _ => False) := by
  have ec : ∀ zs : List Int, cellsL id [AV.run k m zs] = ints k zs := fun zs => by simp [cellsL]
  rw [ec] at hx hy
  obtain ⟨_, _, d, hd, _, rfl, hsz⟩ := hT.ty t _ ht
  obtain ⟨_, _, d2, hd2, _, hD2⟩ := hT.ty el _ hel
  cases hD2
  have hex : execOp ρ o = (do pure (.value (← (do eqGuard .eql t x y (.agg (ints k xs).toArray) (.agg (ints k ys).toArray); binOp .eql t (.agg (ints k xs).toArray) (.agg (ints k ys).toArray))))) := by
    unfold execOp; rw [ho]; simp only [hx, hy]
  rw [hex]
  refine wpB (wpB (wp_eqGuardArr hg ?_))
  show wp P (do pure (Value.bool (← Op.equal t (.agg (ints k xs).toArray) (.agg (ints k ys).toArray)))) h _ _
  exact wpB (wp_eqArr hd hd2 hsz hxl hyl (wpP ⟨rfl, rfl⟩))
theorem eqArr' (hT : TabOK P T) {ρ : Operand → Value} {o : Oper} {t el m : TypeId} {ty : TypeId} {s1 s2 : Nat} {a1 a2 : Bool} {z1 z2 : List AV} {k : IntKind} {x y : Operand} {xs ys : List Int} {b : Bool} (hb : decide (xs = ys) = b) (ho : o.op = .binOp .eql t x y ty)
    (ht : T.ty t = some ⟨.array m el 1, s1, a1, z1⟩) (hel : T.ty el = some ⟨.int k, s2, a2, z2⟩) (hg : P.eqGuardType P.depth t = false)
    (hx : ρ x = .agg (cellsL id [.run k m xs]).toArray) (hy : ρ y = .agg (cellsL id [.run k m ys]).toArray) (hxl : xs.length = m) (hyl : ys.length = m) (h : Hp) :
    wp P (execOp ρ o) h (fun nx h' => nx = .value ((AV.bool b).val id) ∧ h' = h) (fun _ _ => False) := by
  subst hb
  exact eqArr hT ho ht hel hg hx hy hxl hyl h
/-- '!=' of two such arrays. -/
theorem neArr' (hT : TabOK P T) {ρ : Operand → Value} {o : Oper} {t el m : TypeId} {ty : TypeId} {s1 s2 : Nat} {a1 a2 : Bool} {z1 z2 : List AV} {k : IntKind} {x y : Operand} {xs ys : List Int} {b : Bool} (hb : decide (xs = ys) = b) (ho : o.op = .binOp .neq t x y ty)
    (ht : T.ty t = some ⟨.array m el 1, s1, a1, z1⟩) (hel : T.ty el = some ⟨.int k, s2, a2, z2⟩) (hg : P.eqGuardType P.depth t = false)
    (hx : ρ x = .agg (cellsL id [.run k m xs]).toArray) (hy : ρ y = .agg (cellsL id [.run k m ys]).toArray) (hxl : xs.length = m) (hyl : ys.length = m) (h : Hp) :
    wp P (execOp ρ o) h (fun nx h' => nx = .value ((AV.bool (!b)).val id) ∧ h' = h) (fun _ _ => False) := by
  subst hb
  have ec : ∀ zs : List Int, cellsL id [AV.run k m zs] = ints k zs := fun zs => by simp [cellsL]
  rw [ec] at hx hy
  obtain ⟨_, _, d, hd, _, rfl, hsz⟩ := hT.ty t _ ht
  obtain ⟨_, _, d2, hd2, _, hD2⟩ := hT.ty el _ hel
  cases hD2
  have hex : execOp ρ o = (do pure (.value (← (do eqGuard .neq t x y (.agg (ints k xs).toArray) (.agg (ints k ys).toArray); binOp .neq t (.agg (ints k xs).toArray) (.agg (ints k ys).toArray))))) := by
    unfold execOp; rw [ho]; simp only [hx, hy]
  rw [hex]
  refine wpB (wpB (wp_eqGuardArr hg ?_))
  show wp P (do pure (Value.bool (!(← Op.equal t (.agg (ints k xs).toArray) (.agg (ints k ys).toArray))))) h _ _
  exact wpB (wp_eqArr hd hd2 hsz hxl hyl (wpP ⟨rfl, rfl⟩))
end
end Go.Proofs.YtfiephhdkloaeaaGreat.Ch
end

section
set_option linter.unusedVariables false
namespace Go.Proofs.YtfiephhdkloaeaaGreat.Ch
open Go Go.Conc
section
variable {P : Program} {main : Bool} {T : Tab} {h : Hp} {pd : List AV} {K : AV → Hp → Prop}
theorem OpX.ext {ρ : Operand → Value} {o : Oper} {c : Call} {g : FuncId} {fn : Func} {f : Operand} {row : Array Value → Sem Value} (ho : o.op = .call c) (hc : c.callee = .value f) (hf : ρ f = .func (.func g) #[] #[])
    (hg : P.funcs[g]? = some fn) (hname : (fn.name == "runtime.NumGoroutine") = false) (hbody : fn.body.isNone = true) (h1 : Extern.findNext fn = none) (h2 : Extern.find fn = some row) {args : Array Value} (ha : c.args.map ρ = args)
    (hw : wp P (row args) h (fun v h' => ∃ r : AV, r.bd 0 = true ∧ r.wf ∧ v = r.val id ∧ KeepH pd h h' ∧ K r h') (fun _ _ => False)) : OpX P (execOp ρ o) h pd K := by
  refine ⟨?_⟩
  have hx : execOp ρ o = (do let d ← resolve ρ c o.type; invoke d.target d.args) := by unfold execOp; rw [ho]
  rw [hx]
  unfold resolve
  simp only [hc, hf, ha]
  refine wpB (show wp P (Deferred.ofValue _ _) h _ _ from ?_)
  show wp P (callFunc g ((#[] ++ args) ++ #[])) h _ _
  rw [Array.append_empty, Array.empty_append]
  unfold callFunc
  show wp P (match P.funcs[g]? with | none => _ | some fn => _) h _ _
  rw [hg]
  simp only [hname, hbody, Bool.false_eq_true, if_false, if_true, h1, h2]
  refine wpB (wp_mark rfl ?_)
  refine wpB (wp_mono _ ?_ (fun _ _ h => h) hw)
  rintro v h' ⟨r, q1, q2, rfl, q3, q4⟩
  exact ⟨r, q1, q2, .inl rfl, q3, q4⟩
end
end Go.Proofs.YtfiephhdkloaeaaGreat.Ch
end

section
set_option linter.unusedVariables false
namespace Go.Proofs.YtfiephhdkloaeaaGreat.Ch
open Go Go.Conc
section
variable {P : Program} {main : Bool} {T : Tab} {h h0 : Hp} {pd : List AV} {K : AV → Hp → Prop}

theorem wp_checkKey {t el m : TypeId} {k : IntKind} {xs : List Int} {em : Bool} {n : Nat} {Q : Unit → Hp → Prop} {E : Halt → Hp → Prop} (hd : P.underlying t = some (.array m el)) (he : P.underlying el = some (.int k)) (hs : SizeIs P el 1)
    (hx : xs.length = m) (hq : Q () h) : wp P (Instr.checkKey em (n + 2) t (.agg (ints k xs).toArray)) h Q E := by
  unfold Instr.checkKey
  refine wpB (wp_underlying hd ?_)
  simp only [Std.Legacy.Range.forIn_eq_forIn_range', Std.Legacy.Range.size, Nat.sub_zero, Nat.add_one_sub_one, Nat.div_one]
  have key : ∀ (c i : Nat), i + c = m → ∀ {Q : Unit → Hp → Prop} {E : Halt → Hp → Prop}, Q () h →
      wp P (forIn (List.range' i c) () fun i _ => do
        let __do_lift ← sizeOf el
        let __do_lift ← part el (ints k xs).toArray (i * __do_lift)
        Instr.checkKey em (n + 1) el __do_lift
        pure (ForInStep.yield ())) h Q E := by
    intro c
    induction c with
    | zero => intro i hi Q E hq; exact hq
    | succ c ih =>
      intro i hi Q E hq
      have h1 : i < xs.length := by omega
      rw [List.range'_succ, List.forIn_cons]
      refine wpB (wpB (wp_sizeOf hs (wpB ?_)))
      unfold part
      refine wpB (wp_isAgg he ?_)
      simp only [aggD, Bool.false_eq_true, if_false, Nat.mul_one]
      have : (ints k xs).toArray[i]? = some (.int k xs[i]) := by simp [ints, h1]
      rw [this]
      refine wpP (wpB ?_)
      unfold Instr.checkKey
      refine wpB (wp_underlying he ?_)
      exact wpP (wpP (ih (i + 1) (by omega) hq))
  exact wpB (key m 0 (by omega) (wpP hq))

/-- The keys of a map, in the order in which they came. -/
def keysOf (k : IntKind) (es : List MapEntry) (ks : List (List Int)) : Prop := es.map (·.key) = ks.map fun t => .agg (ints k t).toArray

theorem wp_findAsking {t el m : TypeId} {k : IntKind} {xs : List Int} (hd : P.underlying t = some (.array m el)) (he : P.underlying el = some (.int k)) (hs : SizeIs P el 1) (hx : xs.length = m) :
    ∀ (es : List MapEntry) (ks : List (List Int)) (i : Nat) {Q : Option (Nat × Value) → Hp → Prop} {E : Halt → Hp → Prop}, keysOf k es ks → (∀ t ∈ ks, t.length = m) →
      (∀ r, (xs ∈ ks → ∃ j e, r = some (i + j, e.val) ∧ es[j]? = some e ∧ e.key = .agg (ints k xs).toArray) → (xs ∉ ks → r = none) → Q r h) →
      wp P (Instr.findAsking t (.agg (ints k xs).toArray) es i) h Q E
  | [], ks, i, Q, E, hk, hl, hq => by
    have : ks = [] := by unfold keysOf at hk; simpa using hk.symm
    subst this
    exact hq none (fun h => by cases h) (fun _ => rfl)
  | e :: es, ks, i, Q, E, hk, hl, hq => by
    cases ks with
    | nil => unfold keysOf at hk; simp at hk
    | cons y ks =>
      unfold keysOf at hk
      simp only [List.map_cons, List.cons.injEq] at hk
      obtain ⟨hk1, hk2⟩ := hk
      unfold Instr.findAsking
      rw [hk1]
      refine wpB (wp_eqArr hd he hs hx (hl y (List.mem_cons_self ..)) ?_)
      by_cases hxy : xs = y
      · simp only [hxy, decide_true, if_true]
        refine hq _ (fun _ => ⟨0, e, rfl, rfl, by rw [hk1, hxy]⟩) (fun hn => absurd (by rw [hxy]; exact List.mem_cons_self ..) hn)
      · simp only [hxy, decide_false, Bool.false_eq_true, if_false]
        refine wp_findAsking hd he hs hx es ks (i + 1) hk2 (fun t ht => hl t (List.mem_cons_of_mem _ ht)) fun r h1 h2 => hq r (fun hm => ?_) (fun hn => h2 fun hm => hn (List.mem_cons_of_mem _ hm))
        rcases List.mem_cons.1 hm with h3 | h3
        · exact absurd h3 hxy
        · obtain ⟨j, e', q1, q2, q3⟩ := h1 h3
          exact ⟨j + 1, e', by rw [q1]; congr 2; omega, by simpa using q2, q3⟩

theorem sameBits_ints (k : IntKind) (n : Nat) (xs : List Int) : Instr.sameBits (n + 1) (.agg (ints k xs).toArray) (.agg (ints k xs).toArray) = true := by
  have key : ∀ xs : List Int, ((ints k xs).zip (ints k xs)).all (fun (x, y) => Instr.sameBits n x y) = true := by
    intro xs
    induction xs with
    | nil => rfl
    | cons x xs ih =>
      show (Instr.sameBits n (.int k x) (.int k x) && ((ints k xs).zip (ints k xs)).all (fun (x, y) => Instr.sameBits n x y)) = true
      rw [ih]
      have : Instr.sameBits n (.int k x) (.int k x) = true := by cases n <;> simp [Instr.sameBits]
      rw [this]; rfl
  simp only [Instr.sameBits, beq_self_eq_true, Bool.true_and]
  exact key xs

def ins (ks : List (List Int)) (xs : List Int) : List (List Int) := if xs ∈ ks then ks else ks ++ [xs]
/-- A map of one's own. -/
def MapOwn (h0 h : Hp) (r : Nat) (k : IntKind) (ks : List (List Int)) : Prop := h0 r = none ∧ ∃ es clock, h r = some (true, .map es clock) ∧ keysOf k es.toList ks

theorem wp_findKey {t el m : TypeId} {k : IntKind} {xs : List Int} (hd : P.underlying t = some (.array m el)) (he : P.underlying el = some (.int k)) (hs : SizeIs P el 1) (hx : xs.length = m)
    {es : List MapEntry} {ks : List (List Int)} {Q : Option (Nat × Value) → Hp → Prop} {E : Halt → Hp → Prop} (hk : keysOf k es ks) (hl : ∀ t ∈ ks, t.length = m)
    (hq : ∀ r, (xs ∈ ks → ∃ j e, r = some (j, e.val) ∧ es[j]? = some e ∧ e.key = .agg (ints k xs).toArray) → (xs ∉ ks → r = none) → Q r h) :
    wp P (Instr.findKey t (.agg (ints k xs).toArray) es) h Q E := by
  unfold Instr.findKey
  refine wpB (wp_underlying hd ?_)
  cases es with
  | nil =>
    have : ks = [] := by unfold keysOf at hk; simpa using hk.symm
    subst this
    exact hq none (fun h => by cases h) (fun _ => rfl)
  | cons e es =>
    have : Instr.findNow (.array m el) (.agg (ints k xs).toArray) (e :: es) 0 = none := rfl
    rw [this]
    refine wp_findAsking hd he hs hx (e :: es) ks 0 hk hl fun r h1 h2 => hq r (fun hm => ?_) h2
    obtain ⟨j, e', q1, q2, q3⟩ := h1 hm
    exact ⟨j, e', by rw [q1, Nat.zero_add], q2, q3⟩

theorem wp_mapUpdate {mt t vt el m : TypeId} {k : IntKind} {xs : List Int} {v : Value} {r : Nat} {ks : List (List Int)} (hm : P.underlying mt = some (.map t vt)) (hd : P.underlying t = some (.array m el)) (he : P.underlying el = some (.int k)) (hs : SizeIs P el 1) (hx : xs.length = m)
    (hl : ∀ t ∈ ks, t.length = m) (hown : MapOwn h0 h r k ks) {Q : Unit → Hp → Prop} {E : Halt → Hp → Prop} (hq : ∀ o, MapOwn h0 (h.set r (true, o)) r k (ins ks xs) → Q () (h.set r (true, o))) :
    wp P (Instr.mapUpdate mt (.map (some r)) (.agg (ints k xs).toArray) v) h Q E := by
  obtain ⟨h1, es, clock, h2, h3⟩ := hown
  unfold Instr.mapUpdate
  refine wpB (wp_underlying hm ?_)
  refine wpB (show wp P (getObj r) h _ _ from ⟨true, _, h2, trivial, ?_⟩)
  refine wpB (wp_checkKey (n := 9998) hd he hs hx ?_)
  refine wpB (wp_findKey hd he hs hx h3 hl fun res r1 r2 => ?_)
  by_cases hmem : xs ∈ ks
  · obtain ⟨j, e, rfl, q2, q3⟩ := r1 hmem
    have hej : es[j]? = some e := by simpa using q2
    have hold : (((es[j]?).map (·.key)).getD (.agg (ints k xs).toArray)) = .agg (ints k xs).toArray := by rw [hej]; exact q3
    simp only [hold]
    unfold Instr.keyThatStays
    rw [if_pos (sameBits_ints k 9999 xs)]
    refine wpB (wpP ?_)
    refine ⟨_, h2, trivial, rfl, hq _ ⟨h1, _, _, Hp.set_same _ _ _, ?_⟩⟩
    unfold ins
    rw [if_pos hmem]
    unfold keysOf at h3 ⊢
    rw [← h3]
    apply List.ext_getElem?
    intro i
    simp only [List.getElem?_map, Array.getElem?_toList, Array.getElem?_modify]
    by_cases hij : j = i
    · subst hij
      rw [if_pos rfl, hej]
      simp [q3]
    · rw [if_neg hij]
  · have := r2 hmem
    subst this
    refine ⟨_, h2, trivial, rfl, hq _ ⟨h1, _, _, Hp.set_same _ _ _, ?_⟩⟩
    unfold ins
    rw [if_neg hmem]
    unfold keysOf at h3 ⊢
    rw [Array.toList_push, List.map_append, List.map_append, h3]
    rfl

/-- A map gets a key. -/
theorem OpX.mapPut (hT : TabOK P T) {ρ : Operand → Value} {o : Oper} {mt t vt el m : TypeId} {s1 s2 : Nat} {a1 a2 : Bool} {z1 z2 : List AV} {k : IntKind} {xs : List Int} {r : Nat} {ks : List (List Int)} {x y z : Operand} (ho : o.op = .mapUpdate mt x y z)
    (hm : P.underlying mt = some (.map t vt)) (ht : T.ty t = some ⟨.array m el 1, s1, a1, z1⟩) (hel : T.ty el = some ⟨.int k, s2, a2, z2⟩) (hx : ρ x = .map (some r)) (hy : ρ y = .agg (cellsL id [.run k m xs]).toArray) (hxl : xs.length = m) (hl : ∀ t ∈ ks, t.length = m)
    (hs : Sub h0 h) (hown : MapOwn h0 h r k ks) (hK : ∀ h', MapOwn h0 h' r k (ins ks xs) → Sub h0 h' → KeepH pd h h' ∧ K (.tup []) h') : OpX P (execOp ρ o) h pd K := by
  have ec : ∀ zs : List Int, cellsL id [AV.run k m zs] = ints k zs := fun zs => by simp [cellsL]
  rw [ec] at hy
  obtain ⟨_, _, d, hd, _, rfl, hsz⟩ := hT.ty t _ ht
  obtain ⟨_, _, d2, hd2, _, hD2⟩ := hT.ty el _ hel
  cases hD2
  refine ⟨?_⟩
  have hex : execOp ρ o = (do Instr.mapUpdate mt (.map (some r)) (.agg (ints k xs).toArray) (ρ z); pure .skip) := by unfold execOp; rw [ho]; simp only [hx, hy]
  rw [hex]
  refine wpB (wp_mapUpdate hm hd hd2 hsz hxl hl hown fun o' ho' => ?_)
  have := hK _ ho' (sub_set_of_none hs hown.1)
  exact ⟨.tup [], rfl, trivial, .inr ⟨rfl, rfl⟩, this.1, this.2⟩

/-- A new map. -/
theorem OpX.mapNew {ρ : Operand → Value} {o : Oper} {mt : TypeId} {k : IntKind} (ho : o.op = .makeMap mt none) (hs : Sub h0 h)
    (hK : ∀ r h', MapOwn h0 h' r k [] → Sub h0 h' → (∀ b, h b ≠ none → h' b = h b) → KeepH pd h h' ∧ K (.map (some r)) h') : OpX P (execOp ρ o) h pd K := by
  refine ⟨?_⟩
  have hex : execOp ρ o = (do pure (.value (← Instr.makeMap mt none))) := by unfold execOp; rw [ho]; rfl
  rw [hex]
  refine wpB (wpB ?_)
  intro r hr
  have := hK r (h.set r (true, .map #[] 0)) ⟨none_of_sub hs hr, #[], 0, Hp.set_same _ _ _, rfl⟩ (sub_set_of_none hs (none_of_sub hs hr)) ?_
  · exact ⟨.map (some r), rfl, trivial, .inl rfl, this.1, this.2⟩
  · intro b hb
    have : b ≠ r := fun e => hb (by rw [e]; exact hr)
    rw [Hp.set_ne _ _ this]

/-- How many keys a map has. -/
theorem OpX.mapLen {ρ : Operand → Value} {o : Oper} {c : Call} {mt t vt : TypeId} {k : IntKind} {r : Nat} {ks : List (List Int)} {x : Operand} (ho : o.op = .call c) (hc : c.callee = .builtin .len) (hargs : c.args = #[x]) (hts : c.argTypes = #[mt])
    (hm : P.underlying mt = some (.map t vt)) (hx : ρ x = .map (some r)) (hown : MapOwn h0 h r k ks) (hK : KeepH pd h h ∧ K (.int .i64 ks.length) h) : OpX P (execOp ρ o) h pd K := by
  obtain ⟨_, es, clock, h2, h3⟩ := hown
  refine ⟨?_⟩
  have hex : execOp ρ o = (do pure (.value (← Builtin.len_ #[mt] o.type #[.map (some r)]))) := by
    unfold execOp
    simp only [ho]
    unfold resolve
    simp only [hc, hargs, hts, List.map_toArray, List.map_cons, List.map_nil, hx]
    rfl
  rw [hex]
  refine wpB (wpB (wp_underlying hm ?_))
  refine wpB (show wp P (getObj r) h _ _ from ⟨true, _, h2, trivial, ?_⟩)
  have hl : es.size = ks.length := by
    have := congrArg List.length h3
    simpa using this
  exact ⟨.int .i64 ks.length, rfl, trivial, .inl (by rw [← hl]; rfl), hK.1, hK.2⟩
end
end Go.Proofs.YtfiephhdkloaeaaGreat.Ch
end

section
set_option linter.unusedVariables false
namespace Go.Proofs.YtfiephhdkloaeaaGreat.Ch
open Go Go.Conc
theorem brD {p : Prop} [Decidable p] {A B : Prop} (h1 : p → A) (h2 : ¬ p → B) : brc (decide p) A B := br (fun q => h1 (of_decide_eq_true q)) (fun q => h2 (of_decide_eq_false q))
theorem brN {p : Prop} [Decidable p] {A B : Prop} (h1 : ¬ p → A) (h2 : p → B) : brc (!decide p) A B := by
  by_cases h : p
  · simp only [h, decide_true, Bool.not_true]; exact h2 h
  · simp only [h, decide_false, Bool.not_false]; exact h1 h

end Go.Proofs.YtfiephhdkloaeaaGreat.Ch
end

section
set_option linter.unusedVariables false
namespace Go.Proofs.YtfiephhdkloaeaaGreat.Ch
open Go Go.Conc
section
variable {P : Program} {main : Bool} {T : Tab} {h h0 : Hp} {pd : List AV} {K : AV → Hp → Prop}
theorem OpX.storeAt (hT : TabOK P T) {ρ : Operand → Value} {o : Oper} {t : TypeId} {i : TI} {x y : Operand} {blk off : Nat} {ad : Addr} {v : AV} {Ty : TypeId} {l : List Value} (ho : o.op = .store t x y) (ht : T.ty t = some i)
    (hx : ρ x = .pointer (some ad)) (had : ad = ⟨blk, off, none⟩) (hy : ρ y = v.val id) (hs : v.sc = true) (hz : i.size = 1) (hb : h blk = some (true, .cells l.toArray Ty (0, 0))) (hl : off < l.length)
    (hK : KeepH pd h (h.set blk (true, .cells (l.set off (v.val id)).toArray Ty (0, 0))) ∧ K (.tup []) (h.set blk (true, .cells (l.set off (v.val id)).toArray Ty (0, 0)))) : OpX P (execOp ρ o) h pd K := by
  subst had
  obtain ⟨hz', _⟩ := hT.ty t i ht
  have hx' : execOp ρ o = (do Instr.storeAt t (ρ x) (ρ y); pure .skip) := by unfold execOp; rw [ho]
  refine ⟨?_⟩
  rw [hx', hx, hy]
  refine wpB (wpB (wp_sureAddr ?_))
  refine wp_storeVar hz' (vs := [v.val id]) (by rw [cells_val, sc_cs hs, sc_cells hs]) (by rw [hz]; rfl) hb (fun _ => by simp only [List.length_singleton]; omega) (fun w hw => by rw [List.mem_singleton.1 hw]; exact sc_scalar hs) ?_
  have : splice l off [v.val id] = l.set off (v.val id) := by
    rw [List.set_eq_take_append_cons_drop, if_pos hl]; simp [splice]
  rw [this]
  exact ⟨.tup [], rfl, trivial, .inr ⟨rfl, rfl⟩, hK.1, hK.2⟩

theorem OpX.field (hT : TabOK P T) {ρ : Operand → Value} {o : Oper} {t ft off sz f : Nat} {fs : List (Nat × Nat × Nat)} {s1 : Nat} {a1 : Bool} {z1 : List AV} {fi : TI} {x : Operand} {cs : List AV} {v : AV} (ho : o.op = .field t x f)
    (ht : T.ty t = some ⟨.struct fs, s1, a1, z1⟩) (hf : fs[f]? = some (off, ft, sz)) (hft : T.ty ft = some fi) (hag : fi.agg = false) (hx : ρ x = (AV.agg cs).val id) (hv : (cellsL id cs)[off]? = some (v.val id)) (hb : v.bd 0 = true) (hw : v.wf)
    (hK : KeepH pd h h ∧ K v h) : OpX P (execOp ρ o) h pd K := by
  obtain ⟨_, _, d, hd, _, Fs, rfl, _, hF⟩ := hT.ty t _ ht
  obtain ⟨fx, k1, k2, k3, k4⟩ := hF f off ft sz hf
  obtain ⟨_, _, d2, hd2, hag2, _⟩ := hT.ty ft _ hft
  refine ⟨?_⟩
  have hex : execOp ρ o = (do pure (.value (← Instr.field t (ρ x) f))) := by unfold execOp; rw [ho]
  rw [hex, hx]
  unfold Instr.field
  refine wpB (wpB (wp_underlying hd ?_))
  simp only [k1, AV.val]
  unfold part
  rw [k3, k2]
  refine wpB (show wp P (asAgg (.agg _)) h _ _ from wpP (wpB (wp_isAgg hd2 ?_)))
  rw [hag2, hag]
  simp only [Bool.false_eq_true, if_false]
  have : (cellsL id cs).toArray[off]? = some (v.val id) := by simpa using hv
  rw [this]
  exact wpP (wpP ⟨v, hb, hw, .inl rfl, hK.1, hK.2⟩)

def Hp.del (h : Hp) (b : Nat) : Hp := fun c => if c = b then none else h c
theorem Hp.del_same (h : Hp) (b : Nat) : h.del b b = none := by simp [Hp.del]
theorem Hp.del_ne (h : Hp) {b c : Nat} (hn : c ≠ b) : h.del b c = h c := by simp [Hp.del, hn]
theorem Hp.del_set {h : Hp} {b : Nat} {x : Bool × Obj} (hb : h b = some x) : h = (h.del b).set b x := by
  funext c
  unfold Hp.set Hp.del
  split
  · rename_i e; rw [e, hb]
  · rfl
theorem sub_del {h k : Hp} {b : Nat} (hs : Sub h k) (hb : h b = none) : Sub h (k.del b) := fun c x hc => by
  have : c ≠ b := fun e => by rw [e, hb] at hc; cases hc
  rw [Hp.del_ne _ this]; exact hs c x hc
theorem sub_set' {h : Hp} {b : Nat} {x : Bool × Obj} (hb : h b = none) : Sub h (h.set b x) := fun c y hc => by
  have : c ≠ b := fun e => by rw [e, hb] at hc; cases hc
  rw [Hp.set_ne _ _ this]; exact hc
end
end Go.Proofs.YtfiephhdkloaeaaGreat.Ch
end
