/- Windows in memory. -/
import Derived.Test.YtfiephhdkloaeaaGreatA4
import Derived.Test.YtfiephhdkloaeaaGreatProg
section
set_option linter.unusedVariables false
namespace Go.Proofs.YtfiephhdkloaeaaGreat.Ch
open Go Go.Conc

theorem LdE.agg {h : Hp} {sz : Nat} {a : Addr} {K : AV → Prop} (cs : List AV) (hb : bdL 0 cs = true) (hw : wfL cs) (hc : CellsAt h a (cellsL id cs)) (hl : (cellsL id cs).length = sz) (hK : K (.agg cs)) : LdE h sz true a K :=
  ⟨.agg cs, hb, hw, hc, hl, rfl, hK⟩
theorem LdE.one {h : Hp} {a : Addr} {K : AV → Prop} (v : AV) (hs : v.sc = true) (hb : v.bd 0 = true) (hw : v.wf) (hc : CellsAt h a [v.val id]) (hK : K v) : LdE h 1 false a K := by
  have e1 : cellsL id v.cs = [v.val id] := by cases v <;> first | rfl | cases hs
  refine ⟨v, hb, hw, by rw [e1]; exact hc, by rw [e1]; rfl, ?_, hK⟩
  cases v <;> first | exact ⟨rfl, rfl⟩ | cases hs

theorem LdE.run {h : Hp} {sz : Nat} {a : Addr} {K : AV → Prop} {k : IntKind} (xs : List Int) (hl : xs.length = sz) (hc : CellsAt h a (ints k xs)) (hK : K (.agg [.run k sz xs])) : LdE h sz true a K :=
  LdE.agg [.run k sz xs] rfl ⟨hl, trivial⟩ (by simpa [cellsL] using hc) (by simp [cellsL, ints, hl]) hK

theorem add_add (ad : Addr) (i j : Nat) : (ad.add i).add j = ad.add (i + j) := by
  by_cases h1 : i = 0
  · subst h1
    have : ad.add 0 = ad := by simp [Addr.add]
    rw [this, Nat.zero_add]
  · have e1 : ad.add i = ⟨ad.block, ad.off + i, none⟩ := by simp [Addr.add, h1]
    have e2 : ad.add (i + j) = ⟨ad.block, ad.off + (i + j), none⟩ := by simp [Addr.add, h1]
    rw [e1, e2, add_off, Nat.add_assoc]
theorem CellsAt.sub {h : Hp} {ad : Addr} {pre vs post : List Value} (hc : CellsAt h ad (pre ++ vs ++ post)) : CellsAt h (ad.add pre.length) vs := by
  intro i v hi
  have hget : (pre ++ vs ++ post)[pre.length + i]? = some v := by
    rw [List.append_assoc, List.getElem?_append_right (by omega), List.getElem?_append_left (by have := (List.getElem?_eq_some_iff.1 hi).1; omega)]
    rw [show pre.length + i - pre.length = i from by omega]; exact hi
  rw [add_add]
  exact hc _ v hget

/-- The part at place i of a row of parts of k cells each. -/
theorem SlAt.part {α : Type} {h : Hp} {a : Option Addr} {f : α → List Value} {k : Nat} {xs : List α} (hs : SlAt h a (xs.flatMap f)) (hk : ∀ x ∈ xs, (f x).length = k) {i : Nat} {x : α} (hi : xs[i]? = some x) (hk0 : k ≠ 0) :
    ∃ ad, a = some ad ∧ CellsAt h (ad.add (i * k)) (f x) := by
  have hlt := (List.getElem?_eq_some_iff.1 hi).1
  have hx : x ∈ xs := List.mem_of_getElem? hi
  have hsplit : xs = xs.take i ++ x :: xs.drop (i + 1) := by
    have := List.take_append_drop i xs
    rw [List.drop_eq_getElem_cons hlt] at this
    rw [(List.getElem?_eq_some_iff.1 hi).2] at this
    exact this.symm
  have hfm : xs.flatMap f = (xs.take i).flatMap f ++ f x ++ (xs.drop (i + 1)).flatMap f := by
    conv => lhs; rw [hsplit]
    simp [List.flatMap_append]
  have hlen : ∀ l : List α, (∀ x ∈ l, (f x).length = k) → (l.flatMap f).length = l.length * k := by
    intro l
    induction l with
    | nil => intro _; simp
    | cons y l ih =>
      intro hl
      rw [List.flatMap_cons, List.length_append, hl y (List.mem_cons_self ..), ih fun x hx => hl x (List.mem_cons_of_mem _ hx), List.length_cons, Nat.succ_mul, Nat.add_comm]
  rcases hs with hs | ⟨ad, h1, h2⟩
  · exfalso
    rw [hfm] at hs
    have := congrArg List.length hs
    simp only [List.length_append, hk x hx, List.length_nil] at this
    omega
  · refine ⟨ad, h1, ?_⟩
    rw [hfm] at h2
    have := h2.sub
    rw [hlen _ (fun y hy => hk y (List.mem_of_mem_take hy)), List.length_take, Nat.min_eq_left (by omega)] at this
    exact this

structure Ep where
  num : Int
  ta : Option Addr
  tc : Nat
  tags : List (List Int)
def tagsV (ts : List (List Int)) : List Value := ts.flatMap (ints .u8)
def epV (e : Ep) : List Value := [.int .i64 e.num, .slice e.ta e.tags.length e.tc]
def epA (e : Ep) : AV := .agg [.int .i64 e.num, .sl e.ta e.tags.length e.tc]
def EpOK (h : Hp) (e : Ep) : Prop := SlAt h e.ta (tagsV e.tags) ∧ ∀ t ∈ e.tags, t.length = 16
def EpsAt (h : Hp) (ea : Option Addr) (es : List Ep) : Prop := SlAt h ea (es.flatMap epV) ∧ ∀ e ∈ es, EpOK h e
structure Win where
  newest : Int
  ea : Option Addr
  ec : Nat
  es : List Ep
def winA (w : Win) : AV := .agg [.int .i64 w.newest, .sl w.ea w.es.length w.ec]
def tot (es : List Ep) : Nat := (es.map fun e => e.tags.length).sum

theorem EpsAt.at {h : Hp} {ea : Option Addr} {es : List Ep} (hE : EpsAt h ea es) {i : Nat} {e : Ep} (hi : es[i]? = some e) : ∃ ad, ea = some ad ∧ CellsAt h (ad.add (i * 2)) (epV e) :=
  hE.1.part (fun _ _ => rfl) hi (by decide)
theorem EpOK.at {h : Hp} {e : Ep} (hE : EpOK h e) {i : Nat} {t : List Int} (hi : e.tags[i]? = some t) : ∃ ad, e.ta = some ad ∧ CellsAt h (ad.add (i * 16)) (ints .u8 t) :=
  SlAt.part hE.1 (fun x hx => by simp [ints, hE.2 x hx]) hi (by decide)

theorem tot_take {es : List Ep} {k : Nat} {e : Ep} (hi : es[k]? = some e) : tot (es.take (k + 1)) = tot (es.take k) + e.tags.length := by
  have hlt := (List.getElem?_eq_some_iff.1 hi).1
  unfold tot
  rw [List.take_add_one, hi]
  simp
theorem tot_take_le (es : List Ep) (k : Nat) : tot (es.take k) ≤ tot es := by
  unfold tot
  conv => rhs; rw [← List.take_append_drop k es]
  rw [List.map_append, List.sum_append]
  omega
/-- Does a stand ahead of b? -/
def lessF : List Int → List Int → Bool
  | a :: as1, b :: bs => if a = b then lessF as1 bs else decide (a < b)
  | _, _ => false
theorem lessF_drop {a b : List Int} {k : Nat} (h1 : k < a.length) (h2 : k < b.length) : lessF (a.drop k) (b.drop k) = if a[k] = b[k] then lessF (a.drop (k + 1)) (b.drop (k + 1)) else decide (a[k] < b[k]) := by
  rw [List.drop_eq_getElem_cons h1, List.drop_eq_getElem_cons h2]; rfl

theorem EpOK.num {h : Hp} {ad : Addr} {e : Ep} (hc : CellsAt h ad (epV e)) : CellsAt h ad [(AV.int .i64 e.num).val id] := by
  have := CellsAt.sub (pre := []) (vs := [.int .i64 e.num]) (post := [.slice e.ta e.tags.length e.tc]) hc
  rw [show ad.add ([] : List Value).length = ad from by simp [Addr.add]] at this
  exact this
theorem EpOK.sl {h : Hp} {ad : Addr} {e : Ep} (hc : CellsAt h ad (epV e)) : CellsAt h (ad.add 1) [(AV.sl e.ta e.tags.length e.tc).val id] :=
  CellsAt.sub (pre := [.int .i64 e.num]) (vs := [.slice e.ta e.tags.length e.tc]) (post := []) hc
end Go.Proofs.YtfiephhdkloaeaaGreat.Ch
end

section
set_option linter.unusedVariables false
namespace Go.Proofs.YtfiephhdkloaeaaGreat.Ch
open Go Go.Conc

def mergeF : List (List Int) → List (List Int) → List (List Int)
  | [], [] => []
  | a :: as1, [] => a :: mergeF as1 []
  | [], b :: bs => b :: mergeF [] bs
  | a :: as1, b :: bs => if lessF b a = true then b :: mergeF (a :: as1) bs else if a = b then a :: mergeF as1 bs else a :: mergeF as1 (b :: bs)
termination_by a b => a.length + b.length
theorem mergeF_nil : mergeF [] [] = [] := by simp [mergeF]
theorem mergeF_left (a : List Int) (as1 : List (List Int)) : mergeF (a :: as1) [] = a :: mergeF as1 [] := by rw [mergeF]
theorem mergeF_right (b : List Int) (bs : List (List Int)) : mergeF [] (b :: bs) = b :: mergeF [] bs := by rw [mergeF]
theorem mergeF_both (a b : List Int) (as1 bs : List (List Int)) : mergeF (a :: as1) (b :: bs) = if lessF b a = true then b :: mergeF (a :: as1) bs else if a = b then a :: mergeF as1 bs else a :: mergeF as1 (b :: bs) := by rw [mergeF]

theorem mergeF_len : ∀ (n : Nat) (a b : List (List Int)), a.length + b.length ≤ n → (mergeF a b).length ≤ a.length + b.length ∧ ∀ t ∈ mergeF a b, t ∈ a ∨ t ∈ b
  | n, [], [], _ => by rw [mergeF_nil]; simp
  | 0, a :: as1, b, h => by simp at h
  | 0, [], b :: bs, h => by simp at h
  | n + 1, a :: as1, [], h => by
    obtain ⟨h1, h2⟩ := mergeF_len n as1 [] (by simp at h ⊢; omega)
    rw [mergeF_left]
    refine ⟨by simp at h1 ⊢; omega, fun t ht => ?_⟩
    rcases List.mem_cons.1 ht with rfl | ht
    · simp
    · rcases h2 t ht with h3 | h3
      · exact .inl (List.mem_cons_of_mem _ h3)
      · exact .inr h3
  | n + 1, [], b :: bs, h => by
    obtain ⟨h1, h2⟩ := mergeF_len n [] bs (by simp at h ⊢; omega)
    rw [mergeF_right]
    refine ⟨by simp at h1 ⊢; omega, fun t ht => ?_⟩
    rcases List.mem_cons.1 ht with rfl | ht
    · simp
    · rcases h2 t ht with h3 | h3
      · exact .inl h3
      · exact .inr (List.mem_cons_of_mem _ h3)
  | n + 1, a :: as1, b :: bs, h => by
    rw [mergeF_both]
    split
    · obtain ⟨h1, h2⟩ := mergeF_len n (a :: as1) bs (by simp at h ⊢; omega)
      refine ⟨by simp at h1 ⊢; omega, fun t ht => ?_⟩
      rcases List.mem_cons.1 ht with rfl | ht
      · simp
      · rcases h2 t ht with h3 | h3
        · exact .inl h3
        · exact .inr (List.mem_cons_of_mem _ h3)
    · split
      · obtain ⟨h1, h2⟩ := mergeF_len n as1 bs (by simp at h ⊢; omega)
        refine ⟨by simp at h1 ⊢; omega, fun t ht => ?_⟩
        rcases List.mem_cons.1 ht with rfl | ht
        · simp
        · rcases h2 t ht with h3 | h3
          · exact .inl (List.mem_cons_of_mem _ h3)
          · exact .inr (List.mem_cons_of_mem _ h3)
      · obtain ⟨h1, h2⟩ := mergeF_len n as1 (b :: bs) (by simp at h ⊢; omega)
        refine ⟨by simp at h1 ⊢; omega, fun t ht => ?_⟩
        rcases List.mem_cons.1 ht with rfl | ht
        · simp
        · rcases h2 t ht with h3 | h3
          · exact .inl (List.mem_cons_of_mem _ h3)
          · exact .inr h3

def sortedF (ts : List (List Int)) : List (List Int) :=
  if ts.length < 2 then ts else mergeF (sortedF (ts.take (ts.length / 2))) (sortedF (ts.drop (ts.length / 2)))
termination_by ts.length
decreasing_by
  · rw [List.length_take]; omega
  · rw [List.length_drop]; omega

theorem sortedF_len : ∀ (n : Nat) (ts : List (List Int)), ts.length ≤ n → (sortedF ts).length ≤ ts.length ∧ ∀ t ∈ sortedF ts, t ∈ ts := by
  intro n
  induction n with
  | zero =>
    intro ts h
    have : ts = [] := List.eq_nil_of_length_eq_zero (by omega)
    subst this
    rw [sortedF]; simp
  | succ n ih =>
    intro ts h
    rw [sortedF]
    split
    · simp
    · obtain ⟨h1, h2⟩ := ih (ts.take (ts.length / 2)) (by rw [List.length_take]; omega)
      obtain ⟨h3, h4⟩ := ih (ts.drop (ts.length / 2)) (by rw [List.length_drop]; omega)
      obtain ⟨h5, h6⟩ := mergeF_len _ _ _ (Nat.le_refl ((sortedF (ts.take (ts.length / 2))).length + (sortedF (ts.drop (ts.length / 2))).length))
      rw [List.length_take] at h1
      rw [List.length_drop] at h3
      refine ⟨by omega, fun t ht => ?_⟩
      rcases h6 t ht with h7 | h7
      · exact List.mem_of_mem_take (h2 t h7)
      · exact List.mem_of_mem_drop (h4 t h7)

theorem tagsV_len {ts : List (List Int)} (h : ∀ t ∈ ts, t.length = 16) : (tagsV ts).length = ts.length * 16 := by
  induction ts with
  | nil => rfl
  | cons t ts ih =>
    have := ih fun x hx => h x (List.mem_cons_of_mem _ hx)
    unfold tagsV at this ⊢
    rw [List.flatMap_cons, List.length_append, this, List.length_cons]
    simp [ints, h t (List.mem_cons_self ..)]; omega
theorem tagsV_append (a b : List (List Int)) : tagsV (a ++ b) = tagsV a ++ tagsV b := by simp [tagsV]
theorem tagsV_one (t : List Int) : tagsV [t] = ints .u8 t := by simp [tagsV]
theorem tagsV_scalar (ts : List (List Int)) : ∀ w ∈ tagsV ts, scalar w = true := by
  intro w hw
  obtain ⟨t, _, h⟩ := List.mem_flatMap.1 hw
  obtain ⟨x, _, rfl⟩ := List.mem_map.1 h
  rfl

/-- A part of a row. -/
theorem SlAt.take {h : Hp} {a : Option Addr} {ts : List (List Int)} {k : Nat} (hs : SlAt h a (tagsV ts)) : SlAt h a (tagsV (ts.take k)) := by
  rcases hs with hs | ⟨ad, h1, h2⟩
  · by_cases h : tagsV (ts.take k) = []
    · exact .inl h
    · exfalso
      apply h
      have : ts = ts.take k ++ ts.drop k := (List.take_append_drop k ts).symm
      rw [this, tagsV_append] at hs
      exact (List.append_eq_nil_iff.1 hs).1
  · refine .inr ⟨ad, h1, ?_⟩
    have : ts = ts.take k ++ ts.drop k := (List.take_append_drop k ts).symm
    rw [this, tagsV_append] at h2
    have := CellsAt.sub (pre := []) (vs := tagsV (ts.take k)) (post := tagsV (ts.drop k)) h2
    rw [show ad.add ([] : List Value).length = ad from by simp [Addr.add]] at this
    exact this
theorem SlAt.drop {h : Hp} {a : Option Addr} {ts : List (List Int)} {k : Nat} (hk : k ≤ ts.length) (hl : ∀ t ∈ ts, t.length = 16) (hs : SlAt h a (tagsV ts)) : SlAt h (a.map (·.add (k * 16))) (tagsV (ts.drop k)) := by
  have e : ts = ts.take k ++ ts.drop k := (List.take_append_drop k ts).symm
  rcases hs with hs | ⟨ad, h1, h2⟩
  · left
    rw [e, tagsV_append] at hs
    exact (List.append_eq_nil_iff.1 hs).2
  · refine .inr ⟨ad.add (k * 16), by rw [h1]; rfl, ?_⟩
    rw [e, tagsV_append] at h2
    have := CellsAt.sub (pre := tagsV (ts.take k)) (vs := tagsV (ts.drop k)) (post := []) (by simpa using h2)
    rw [tagsV_len (fun t ht => hl t (List.mem_of_mem_take ht)), List.length_take, Nat.min_eq_left hk] at this
    exact this
end Go.Proofs.YtfiephhdkloaeaaGreat.Ch
end

section
set_option maxRecDepth 100000
namespace Go.Proofs.YtfiephhdkloaeaaGreat.Ch
open Go Go.Conc
def zeros (n : Nat) : List Int := List.replicate n 0
def tabTy (t : Nat) : Option TI := bif Nat.blt t 200 then (bif Nat.blt t 94 then (bif Nat.blt t 48 then (bif Nat.blt t 24 then (bif Nat.blt t 12 then (bif Nat.blt t 6 then (bif Nat.blt t 3 then (bif Nat.blt t 2 then (bif Nat.beq t 1 then some ⟨.other, 1, false, [.nilf]⟩ else none) else (bif Nat.beq t 2 then some ⟨.int .i64, 1, false, [.int .i64 0]⟩ else none)) else (bif Nat.blt t 4 then (bif Nat.beq t 3 then some ⟨.int .i64, 1, false, [.int .i64 0]⟩ else none) else (bif Nat.blt t 5 then (bif Nat.beq t 4 then some ⟨.bool, 1, false, [.bool false]⟩ else none) else (bif Nat.beq t 5 then some ⟨.int .u8, 1, false, [.int .u8 0]⟩ else none)))) else (bif Nat.blt t 9 then (bif Nat.blt t 7 then (bif Nat.beq t 6 then some ⟨.int .u8, 1, false, [.int .u8 0]⟩ else none) else (bif Nat.blt t 8 then (bif Nat.beq t 7 then some ⟨.struct [(0, 2, 1), (1, 3, 1), (2, 4, 1), (3, 6, 1)], 4, true, [.int .i64 0, .int .i64 0, .bool false, .int .u8 0]⟩ else none) else (bif Nat.beq t 8 then some ⟨.struct [(0, 2, 1), (1, 3, 1), (2, 4, 1), (3, 6, 1)], 4, true, [.int .i64 0, .int .i64 0, .bool false, .int .u8 0]⟩ else none))) else (bif Nat.blt t 10 then (bif Nat.beq t 9 then some ⟨.str, 1, false, [.str ⟨#[]⟩]⟩ else none) else (bif Nat.blt t 11 then (bif Nat.beq t 10 then some ⟨.str, 1, false, [.str ⟨#[]⟩]⟩ else none) else (bif Nat.beq t 11 then some ⟨.str, 1, false, [.str ⟨#[]⟩]⟩ else none))))) else (bif Nat.blt t 18 then (bif Nat.blt t 15 then (bif Nat.blt t 13 then (bif Nat.beq t 12 then some ⟨.int .u64, 1, false, [.int .u64 0]⟩ else none) else (bif Nat.blt t 14 then (bif Nat.beq t 13 then some ⟨.struct [(0, 9, 1), (1, 12, 1)], 2, true, [.str ⟨#[]⟩, .int .u64 0]⟩ else none) else (bif Nat.beq t 14 then some ⟨.struct [(0, 9, 1), (1, 12, 1)], 2, true, [.str ⟨#[]⟩, .int .u64 0]⟩ else none))) else (bif Nat.blt t 16 then (bif Nat.beq t 15 then some ⟨.ptr, 1, false, [.nilp]⟩ else none) else (bif Nat.blt t 17 then (bif Nat.beq t 16 then some ⟨.ptr, 1, false, [.nilp]⟩ else none) else (bif Nat.beq t 17 then some ⟨.ptr, 1, false, [.nilp]⟩ else none)))) else (bif Nat.blt t 21 then (bif Nat.blt t 19 then (bif Nat.beq t 18 then some ⟨.struct [(0, 17, 1)], 1, true, [.nilp]⟩ else none) else (bif Nat.blt t 20 then (bif Nat.beq t 19 then some ⟨.struct [(0, 17, 1)], 1, true, [.nilp]⟩ else none) else (bif Nat.beq t 20 then some ⟨.iface, 1, false, [.nili]⟩ else none))) else (bif Nat.blt t 22 then (bif Nat.beq t 21 then some ⟨.int .i32, 1, false, [.int .i32 0]⟩ else none) else (bif Nat.blt t 23 then (bif Nat.beq t 22 then some ⟨.slice 5 1, 1, false, [.sl none 0 0]⟩ else none) else (bif Nat.beq t 23 then some ⟨.struct [(0, 22, 1), (1, 3, 1), (2, 3, 1), (3, 3, 1), (4, 3, 1), (5, 3, 1), (6, 3, 1), (7, 3, 1), (8, 3, 1), (9, 3, 1), (10, 3, 1)], 11, true, [.sl none 0 0, .int .i64 0, .int .i64 0, .int .i64 0, .int .i64 0, .int .i64 0, .int .i64 0, .int .i64 0, .int .i64 0, .int .i64 0, .int .i64 0]⟩ else none)))))) else (bif Nat.blt t 36 then (bif Nat.blt t 29 then (bif Nat.blt t 26 then (bif Nat.blt t 25 then (bif Nat.beq t 24 then some ⟨.struct [(0, 22, 1), (1, 3, 1), (2, 3, 1), (3, 3, 1), (4, 3, 1), (5, 3, 1), (6, 3, 1), (7, 3, 1), (8, 3, 1), (9, 3, 1), (10, 3, 1)], 11, true, [.sl none 0 0, .int .i64 0, .int .i64 0, .int .i64 0, .int .i64 0, .int .i64 0, .int .i64 0, .int .i64 0, .int .i64 0, .int .i64 0, .int .i64 0]⟩ else none) else (bif Nat.beq t 25 then some ⟨.slice 57 2, 1, false, [.sl none 0 0]⟩ else none)) else (bif Nat.blt t 27 then (bif Nat.beq t 26 then some ⟨.struct [(0, 2, 1), (1, 25, 1)], 2, true, [.int .i64 0, .sl none 0 0]⟩ else none) else (bif Nat.blt t 28 then (bif Nat.beq t 27 then some ⟨.struct [(0, 2, 1), (1, 25, 1)], 2, true, [.int .i64 0, .sl none 0 0]⟩ else none) else (bif Nat.beq t 28 then some ⟨.struct [(0, 2, 1), (1, 27, 2)], 3, true, [.int .i64 0, .int .i64 0, .sl none 0 0]⟩ else none)))) else (bif Nat.blt t 32 then (bif Nat.blt t 30 then (bif Nat.beq t 29 then some ⟨.struct [(0, 2, 1), (1, 27, 2)], 3, true, [.int .i64 0, .int .i64 0, .sl none 0 0]⟩ else none) else (bif Nat.blt t 31 then (bif Nat.beq t 30 then some ⟨.other, 1, false, [.nilf]⟩ else none) else (bif Nat.beq t 31 then some ⟨.ptr, 1, false, [.nilp]⟩ else none))) else (bif Nat.blt t 34 then (bif Nat.beq t 32 then some ⟨.int .i64, 1, false, [.int .i64 0]⟩ else none) else (bif Nat.blt t 35 then (bif Nat.beq t 34 then some ⟨.other, 1, false, [.nilf]⟩ else none) else (bif Nat.beq t 35 then some ⟨.other, 1, false, [.nilf]⟩ else none))))) else (bif Nat.blt t 42 then (bif Nat.blt t 39 then (bif Nat.blt t 37 then (bif Nat.beq t 36 then some ⟨.other, 1, false, [.nilf]⟩ else none) else (bif Nat.blt t 38 then (bif Nat.beq t 37 then some ⟨.other, 1, false, [.nilf]⟩ else none) else (bif Nat.beq t 38 then some ⟨.other, 1, false, [.nilf]⟩ else none))) else (bif Nat.blt t 40 then (bif Nat.beq t 39 then some ⟨.other, 1, false, [.nilf]⟩ else none) else (bif Nat.blt t 41 then (bif Nat.beq t 40 then some ⟨.other, 1, false, [.nilf]⟩ else none) else (bif Nat.beq t 41 then some ⟨.struct [(0, 3, 1), (1, 3, 1), (2, 3, 1), (3, 3, 1), (4, 3, 1)], 5, true, [.int .i64 0, .int .i64 0, .int .i64 0, .int .i64 0, .int .i64 0]⟩ else none)))) else (bif Nat.blt t 45 then (bif Nat.blt t 43 then (bif Nat.beq t 42 then some ⟨.struct [(0, 3, 1), (1, 3, 1), (2, 3, 1), (3, 3, 1), (4, 3, 1)], 5, true, [.int .i64 0, .int .i64 0, .int .i64 0, .int .i64 0, .int .i64 0]⟩ else none) else (bif Nat.blt t 44 then (bif Nat.beq t 43 then some ⟨.struct [(0, 22, 1), (1, 29, 3), (4, 42, 5), (9, 32, 1), (10, 3, 1)], 11, true, [.sl none 0 0, .int .i64 0, .int .i64 0, .sl none 0 0, .int .i64 0, .int .i64 0, .int .i64 0, .int .i64 0, .int .i64 0, .int .i64 0, .int .i64 0]⟩ else none) else (bif Nat.beq t 44 then some ⟨.struct [(0, 22, 1), (1, 29, 3), (4, 42, 5), (9, 32, 1), (10, 3, 1)], 11, true, [.sl none 0 0, .int .i64 0, .int .i64 0, .sl none 0 0, .int .i64 0, .int .i64 0, .int .i64 0, .int .i64 0, .int .i64 0, .int .i64 0, .int .i64 0]⟩ else none))) else (bif Nat.blt t 46 then (bif Nat.beq t 45 then some ⟨.other, 1, false, [.nilf]⟩ else none) else (bif Nat.blt t 47 then (bif Nat.beq t 46 then some ⟨.other, 1, false, [.nilf]⟩ else none) else (bif Nat.beq t 47 then some ⟨.other, 1, false, [.nilf]⟩ else none))))))) else (bif Nat.blt t 71 then (bif Nat.blt t 59 then (bif Nat.blt t 53 then (bif Nat.blt t 50 then (bif Nat.blt t 49 then (bif Nat.beq t 48 then some ⟨.other, 1, false, [.nilf]⟩ else none) else (bif Nat.beq t 49 then some ⟨.other, 1, false, [.nilf]⟩ else none)) else (bif Nat.blt t 51 then (bif Nat.beq t 50 then some ⟨.struct [(0, 24, 11), (11, 29, 3), (14, 22, 1)], 15, true, [.sl none 0 0, .int .i64 0, .int .i64 0, .int .i64 0, .int .i64 0, .int .i64 0, .int .i64 0, .int .i64 0, .int .i64 0, .int .i64 0, .int .i64 0, .int .i64 0, .int .i64 0, .sl none 0 0, .sl none 0 0]⟩ else none) else (bif Nat.blt t 52 then (bif Nat.beq t 51 then some ⟨.struct [(0, 24, 11), (11, 29, 3), (14, 22, 1)], 15, true, [.sl none 0 0, .int .i64 0, .int .i64 0, .int .i64 0, .int .i64 0, .int .i64 0, .int .i64 0, .int .i64 0, .int .i64 0, .int .i64 0, .int .i64 0, .int .i64 0, .int .i64 0, .sl none 0 0, .sl none 0 0]⟩ else none) else (bif Nat.beq t 52 then some ⟨.other, 1, false, [.nilf]⟩ else none)))) else (bif Nat.blt t 56 then (bif Nat.blt t 54 then (bif Nat.beq t 53 then some ⟨.other, 1, false, [.nilf]⟩ else none) else (bif Nat.blt t 55 then (bif Nat.beq t 54 then some ⟨.other, 1, false, [.nilf]⟩ else none) else (bif Nat.beq t 55 then some ⟨.slice 70 16, 1, false, [.sl none 0 0]⟩ else none))) else (bif Nat.blt t 57 then (bif Nat.beq t 56 then some ⟨.struct [(0, 2, 1), (1, 55, 1)], 2, true, [.int .i64 0, .sl none 0 0]⟩ else none) else (bif Nat.blt t 58 then (bif Nat.beq t 57 then some ⟨.struct [(0, 2, 1), (1, 55, 1)], 2, true, [.int .i64 0, .sl none 0 0]⟩ else none) else (bif Nat.beq t 58 then some ⟨.slice 3 1, 1, false, [.sl none 0 0]⟩ else none))))) else (bif Nat.blt t 65 then (bif Nat.blt t 62 then (bif Nat.blt t 60 then (bif Nat.beq t 59 then some ⟨.iface, 1, false, [.nili]⟩ else none) else (bif Nat.blt t 61 then (bif Nat.beq t 60 then some ⟨.iface, 1, false, [.nili]⟩ else none) else (bif Nat.beq t 61 then some ⟨.struct [], 0, true, []⟩ else none))) else (bif Nat.blt t 63 then (bif Nat.beq t 62 then some ⟨.struct [], 0, true, []⟩ else none) else (bif Nat.blt t 64 then (bif Nat.beq t 63 then some ⟨.struct [], 0, true, []⟩ else none) else (bif Nat.beq t 64 then some ⟨.struct [(0, 58, 1)], 1, true, [.sl none 0 0]⟩ else none)))) else (bif Nat.blt t 68 then (bif Nat.blt t 66 then (bif Nat.beq t 65 then some ⟨.struct [(0, 58, 1)], 1, true, [.sl none 0 0]⟩ else none) else (bif Nat.blt t 67 then (bif Nat.beq t 66 then some ⟨.other, 1, false, [.nilf]⟩ else none) else (bif Nat.beq t 67 then some ⟨.other, 1, false, [.nilf]⟩ else none))) else (bif Nat.blt t 69 then (bif Nat.beq t 68 then some ⟨.other, 1, false, [.nilf]⟩ else none) else (bif Nat.blt t 70 then (bif Nat.beq t 69 then some ⟨.other, 1, false, [.nilf]⟩ else none) else (bif Nat.beq t 70 then some ⟨.array 16 5 1, 16, true, [.run .u8 16 (zeros 16)]⟩ else none)))))) else (bif Nat.blt t 82 then (bif Nat.blt t 76 then (bif Nat.blt t 73 then (bif Nat.blt t 72 then (bif Nat.beq t 71 then some ⟨.other, 1, false, [.nilf]⟩ else none) else (bif Nat.beq t 72 then some ⟨.other, 1, false, [.nilf]⟩ else none)) else (bif Nat.blt t 74 then (bif Nat.beq t 73 then some ⟨.other, 1, false, [.nilf]⟩ else none) else (bif Nat.blt t 75 then (bif Nat.beq t 74 then some ⟨.other, 1, false, [.nilf]⟩ else none) else (bif Nat.beq t 75 then some ⟨.other, 1, false, [.map none]⟩ else none)))) else (bif Nat.blt t 79 then (bif Nat.blt t 77 then (bif Nat.beq t 76 then some ⟨.other, 1, false, [.nilf]⟩ else none) else (bif Nat.blt t 78 then (bif Nat.beq t 77 then some ⟨.other, 1, false, [.nilf]⟩ else none) else (bif Nat.beq t 78 then some ⟨.other, 1, false, [.nilf]⟩ else none))) else (bif Nat.blt t 80 then (bif Nat.beq t 79 then some ⟨.other, 1, false, [.nilf]⟩ else none) else (bif Nat.blt t 81 then (bif Nat.beq t 80 then some ⟨.other, 1, false, [.nilf]⟩ else none) else (bif Nat.beq t 81 then some ⟨.other, 1, false, [.nilf]⟩ else none))))) else (bif Nat.blt t 88 then (bif Nat.blt t 85 then (bif Nat.blt t 83 then (bif Nat.beq t 82 then some ⟨.struct [(0, 17, 1), (1, 17, 1), (2, 17, 1), (3, 9, 1)], 4, true, [.nilp, .nilp, .nilp, .str ⟨#[]⟩]⟩ else none) else (bif Nat.blt t 84 then (bif Nat.beq t 83 then some ⟨.struct [(0, 17, 1), (1, 17, 1), (2, 17, 1), (3, 9, 1)], 4, true, [.nilp, .nilp, .nilp, .str ⟨#[]⟩]⟩ else none) else (bif Nat.beq t 84 then some ⟨.array 0 16 1, 0, true, []⟩ else none))) else (bif Nat.blt t 86 then (bif Nat.beq t 85 then some ⟨.struct [(0, 84, 0)], 0, true, []⟩ else none) else (bif Nat.blt t 87 then (bif Nat.beq t 86 then some ⟨.struct [(0, 84, 0)], 0, true, []⟩ else none) else (bif Nat.beq t 87 then some ⟨.other, 1, false, [.nilf]⟩ else none)))) else (bif Nat.blt t 91 then (bif Nat.blt t 89 then (bif Nat.beq t 88 then some ⟨.int .u32, 1, false, [.int .u32 0]⟩ else none) else (bif Nat.blt t 90 then (bif Nat.beq t 89 then some ⟨.int .u8, 1, false, [.int .u8 0]⟩ else none) else (bif Nat.beq t 90 then some ⟨.int .u8, 1, false, [.int .u8 0]⟩ else none))) else (bif Nat.blt t 92 then (bif Nat.beq t 91 then some ⟨.other, 1, false, [.nilf]⟩ else none) else (bif Nat.blt t 93 then (bif Nat.beq t 92 then some ⟨.ptr, 1, false, [.nilp]⟩ else none) else (bif Nat.beq t 93 then some ⟨.int .i32, 1, false, [.int .i32 0]⟩ else none)))))))) else (bif Nat.blt t 151 then (bif Nat.blt t 125 then (bif Nat.blt t 107 then (bif Nat.blt t 99 then (bif Nat.blt t 96 then (bif Nat.blt t 95 then (bif Nat.beq t 94 then some ⟨.int .i32, 1, false, [.int .i32 0]⟩ else none) else (bif Nat.beq t 95 then some ⟨.struct [(0, 12, 1), (1, 12, 1), (2, 88, 1), (3, 89, 1), (4, 5, 1), (5, 5, 1), (6, 90, 1), (7, 91, 1), (8, 92, 1), (9, 93, 1), (10, 94, 1)], 11, true, [.int .u64 0, .int .u64 0, .int .u32 0, .int .u8 0, .int .u8 0, .int .u8 0, .int .u8 0, .nilf, .nilp, .int .i32 0, .int .i32 0]⟩ else none)) else (bif Nat.blt t 97 then (bif Nat.beq t 96 then some ⟨.struct [(0, 12, 1), (1, 12, 1), (2, 88, 1), (3, 89, 1), (4, 5, 1), (5, 5, 1), (6, 90, 1), (7, 91, 1), (8, 92, 1), (9, 93, 1), (10, 94, 1)], 11, true, [.int .u64 0, .int .u64 0, .int .u32 0, .int .u8 0, .int .u8 0, .int .u8 0, .int .u8 0, .nilf, .nilp, .int .i32 0, .int .i32 0]⟩ else none) else (bif Nat.blt t 98 then (bif Nat.beq t 97 then some ⟨.struct [(0, 2, 1), (1, 2, 1), (2, 3, 1)], 3, true, [.int .i64 0, .int .i64 0, .int .i64 0]⟩ else none) else (bif Nat.beq t 98 then some ⟨.struct [(0, 2, 1), (1, 2, 1), (2, 3, 1)], 3, true, [.int .i64 0, .int .i64 0, .int .i64 0]⟩ else none)))) else (bif Nat.blt t 103 then (bif Nat.blt t 100 then (bif Nat.beq t 99 then some ⟨.slice 22 1, 1, false, [.sl none 0 0]⟩ else none) else (bif Nat.blt t 101 then (bif Nat.beq t 100 then some ⟨.struct [(0, 98, 3), (3, 99, 1)], 4, true, [.int .i64 0, .int .i64 0, .int .i64 0, .sl none 0 0]⟩ else none) else (bif Nat.beq t 101 then some ⟨.struct [(0, 98, 3), (3, 99, 1)], 4, true, [.int .i64 0, .int .i64 0, .int .i64 0, .sl none 0 0]⟩ else none))) else (bif Nat.blt t 104 then (bif Nat.beq t 103 then some ⟨.other, 1, false, [.nilf]⟩ else none) else (bif Nat.blt t 105 then (bif Nat.beq t 104 then some ⟨.other, 1, false, [.nilf]⟩ else none) else (bif Nat.beq t 105 then some ⟨.slice 113 17, 1, false, [.sl none 0 0]⟩ else none))))) else (bif Nat.blt t 117 then (bif Nat.blt t 112 then (bif Nat.blt t 109 then (bif Nat.beq t 107 then some ⟨.other, 1, false, [.nilf]⟩ else none) else (bif Nat.blt t 111 then (bif Nat.beq t 109 then some ⟨.other, 1, false, [.nilf]⟩ else none) else (bif Nat.beq t 111 then some ⟨.other, 1, false, [.nilf]⟩ else none))) else (bif Nat.blt t 113 then (bif Nat.beq t 112 then some ⟨.struct [(0, 22, 1), (1, 70, 16)], 17, true, [.sl none 0 0, .run .u8 16 (zeros 16)]⟩ else none) else (bif Nat.blt t 115 then (bif Nat.beq t 113 then some ⟨.struct [(0, 22, 1), (1, 70, 16)], 17, true, [.sl none 0 0, .run .u8 16 (zeros 16)]⟩ else none) else (bif Nat.beq t 115 then some ⟨.other, 1, false, [.nilf]⟩ else none)))) else (bif Nat.blt t 121 then (bif Nat.blt t 119 then (bif Nat.beq t 117 then some ⟨.other, 1, false, [.nilf]⟩ else none) else (bif Nat.blt t 120 then (bif Nat.beq t 119 then some ⟨.other, 1, false, [.nilf]⟩ else none) else (bif Nat.beq t 120 then some ⟨.other, 1, false, [.nilf]⟩ else none))) else (bif Nat.blt t 123 then (bif Nat.beq t 121 then some ⟨.other, 1, false, [.nilf]⟩ else none) else (bif Nat.blt t 124 then (bif Nat.beq t 123 then some ⟨.other, 1, false, [.nilf]⟩ else none) else (bif Nat.beq t 124 then some ⟨.other, 1, false, [.nilf]⟩ else none)))))) else (bif Nat.blt t 139 then (bif Nat.blt t 133 then (bif Nat.blt t 128 then (bif Nat.blt t 126 then (bif Nat.beq t 125 then some ⟨.struct [(0, 22, 1), (1, 22, 1), (2, 99, 1)], 3, true, [.sl none 0 0, .sl none 0 0, .sl none 0 0]⟩ else none) else (bif Nat.beq t 126 then some ⟨.struct [(0, 22, 1), (1, 22, 1), (2, 99, 1)], 3, true, [.sl none 0 0, .sl none 0 0, .sl none 0 0]⟩ else none)) else (bif Nat.blt t 130 then (bif Nat.beq t 128 then some ⟨.other, 1, false, [.nilf]⟩ else none) else (bif Nat.blt t 131 then (bif Nat.beq t 130 then some ⟨.other, 1, false, [.nilf]⟩ else none) else (bif Nat.beq t 131 then some ⟨.other, 1, false, [.nilf]⟩ else none)))) else (bif Nat.blt t 136 then (bif Nat.blt t 134 then (bif Nat.beq t 133 then some ⟨.other, 1, false, [.nilf]⟩ else none) else (bif Nat.blt t 135 then (bif Nat.beq t 134 then some ⟨.other, 1, false, [.nilf]⟩ else none) else (bif Nat.beq t 135 then some ⟨.other, 1, false, [.nilf]⟩ else none))) else (bif Nat.blt t 137 then (bif Nat.beq t 136 then some ⟨.other, 1, false, [.nilf]⟩ else none) else (bif Nat.blt t 138 then (bif Nat.beq t 137 then some ⟨.other, 1, false, [.nilf]⟩ else none) else (bif Nat.beq t 138 then some ⟨.int .u64, 1, false, [.int .u64 0]⟩ else none))))) else (bif Nat.blt t 145 then (bif Nat.blt t 142 then (bif Nat.blt t 140 then (bif Nat.beq t 139 then some ⟨.struct [(0, 88, 1), (1, 88, 1)], 2, true, [.int .u32 0, .int .u32 0]⟩ else none) else (bif Nat.blt t 141 then (bif Nat.beq t 140 then some ⟨.struct [(0, 88, 1), (1, 88, 1)], 2, true, [.int .u32 0, .int .u32 0]⟩ else none) else (bif Nat.beq t 141 then some ⟨.other, 1, false, [.nilf]⟩ else none))) else (bif Nat.blt t 143 then (bif Nat.beq t 142 then some ⟨.other, 1, false, [.nilf]⟩ else none) else (bif Nat.blt t 144 then (bif Nat.beq t 143 then some ⟨.ptr, 1, false, [.nilp]⟩ else none) else (bif Nat.beq t 144 then some ⟨.other, 1, false, [.nilf]⟩ else none)))) else (bif Nat.blt t 148 then (bif Nat.blt t 146 then (bif Nat.beq t 145 then some ⟨.other, 1, false, [.nilf]⟩ else none) else (bif Nat.blt t 147 then (bif Nat.beq t 146 then some ⟨.other, 1, false, [.nilf]⟩ else none) else (bif Nat.beq t 147 then some ⟨.struct [(0, 22, 1), (1, 3, 1), (2, 3, 1), (3, 3, 1), (4, 98, 3), (7, 140, 2), (9, 32, 1), (10, 3, 1)], 11, true, [.sl none 0 0, .int .i64 0, .int .i64 0, .int .i64 0, .int .i64 0, .int .i64 0, .int .i64 0, .int .u32 0, .int .u32 0, .int .i64 0, .int .i64 0]⟩ else none))) else (bif Nat.blt t 149 then (bif Nat.beq t 148 then some ⟨.struct [(0, 22, 1), (1, 3, 1), (2, 3, 1), (3, 3, 1), (4, 98, 3), (7, 140, 2), (9, 32, 1), (10, 3, 1)], 11, true, [.sl none 0 0, .int .i64 0, .int .i64 0, .int .i64 0, .int .i64 0, .int .i64 0, .int .i64 0, .int .u32 0, .int .u32 0, .int .i64 0, .int .i64 0]⟩ else none) else (bif Nat.blt t 150 then (bif Nat.beq t 149 then some ⟨.other, 1, false, [.nilf]⟩ else none) else (bif Nat.beq t 150 then some ⟨.other, 1, false, [.nilf]⟩ else none))))))) else (bif Nat.blt t 177 then (bif Nat.blt t 164 then (bif Nat.blt t 157 then (bif Nat.blt t 153 then (bif Nat.blt t 152 then (bif Nat.beq t 151 then some ⟨.other, 1, false, [.nilf]⟩ else none) else (bif Nat.beq t 152 then some ⟨.other, 1, false, [.nilf]⟩ else none)) else (bif Nat.blt t 154 then (bif Nat.beq t 153 then some ⟨.array 32 5 1, 32, true, [.run .u8 32 (zeros 32)]⟩ else none) else (bif Nat.blt t 155 then (bif Nat.beq t 154 then some ⟨.struct [(0, 70, 16), (16, 153, 32), (48, 153, 32)], 80, true, [.run .u8 16 (zeros 16), .run .u8 32 (zeros 32), .run .u8 32 (zeros 32)]⟩ else none) else (bif Nat.beq t 155 then some ⟨.struct [(0, 70, 16), (16, 153, 32), (48, 153, 32)], 80, true, [.run .u8 16 (zeros 16), .run .u8 32 (zeros 32), .run .u8 32 (zeros 32)]⟩ else none)))) else (bif Nat.blt t 161 then (bif Nat.blt t 158 then (bif Nat.beq t 157 then some ⟨.other, 1, false, [.nilf]⟩ else none) else (bif Nat.blt t 159 then (bif Nat.beq t 158 then some ⟨.other, 1, false, [.nilf]⟩ else none) else (bif Nat.beq t 159 then some ⟨.other, 1, false, [.nilf]⟩ else none))) else (bif Nat.blt t 162 then (bif Nat.beq t 161 then some ⟨.other, 1, false, [.nilf]⟩ else none) else (bif Nat.blt t 163 then (bif Nat.beq t 162 then some ⟨.other, 1, false, [.nilf]⟩ else none) else (bif Nat.beq t 163 then some ⟨.other, 1, false, [.nilf]⟩ else none))))) else (bif Nat.blt t 170 then (bif Nat.blt t 167 then (bif Nat.blt t 165 then (bif Nat.beq t 164 then some ⟨.other, 1, false, [.nilf]⟩ else none) else (bif Nat.blt t 166 then (bif Nat.beq t 165 then some ⟨.other, 1, false, [.nilf]⟩ else none) else (bif Nat.beq t 166 then some ⟨.other, 1, false, [.nilf]⟩ else none))) else (bif Nat.blt t 168 then (bif Nat.beq t 167 then some ⟨.other, 1, false, [.nilf]⟩ else none) else (bif Nat.blt t 169 then (bif Nat.beq t 168 then some ⟨.other, 1, false, [.nilf]⟩ else none) else (bif Nat.beq t 169 then some ⟨.int .u64, 1, false, [.int .u64 0]⟩ else none)))) else (bif Nat.blt t 173 then (bif Nat.blt t 171 then (bif Nat.beq t 170 then some ⟨.other, 1, false, [.nilf]⟩ else none) else (bif Nat.blt t 172 then (bif Nat.beq t 171 then some ⟨.struct [(0, 126, 3), (3, 58, 1), (4, 58, 1)], 5, true, [.sl none 0 0, .sl none 0 0, .sl none 0 0, .sl none 0 0, .sl none 0 0]⟩ else none) else (bif Nat.beq t 172 then some ⟨.struct [(0, 126, 3), (3, 58, 1), (4, 58, 1)], 5, true, [.sl none 0 0, .sl none 0 0, .sl none 0 0, .sl none 0 0, .sl none 0 0]⟩ else none))) else (bif Nat.blt t 175 then (bif Nat.beq t 173 then some ⟨.slice 58 1, 1, false, [.sl none 0 0]⟩ else none) else (bif Nat.blt t 176 then (bif Nat.beq t 175 then some ⟨.other, 1, false, [.nilf]⟩ else none) else (bif Nat.beq t 176 then some ⟨.other, 1, false, [.nilf]⟩ else none)))))) else (bif Nat.blt t 188 then (bif Nat.blt t 182 then (bif Nat.blt t 179 then (bif Nat.blt t 178 then (bif Nat.beq t 177 then some ⟨.other, 1, false, [.nilf]⟩ else none) else (bif Nat.beq t 178 then some ⟨.other, 1, false, [.nilf]⟩ else none)) else (bif Nat.blt t 180 then (bif Nat.beq t 179 then some ⟨.other, 1, false, [.nilf]⟩ else none) else (bif Nat.blt t 181 then (bif Nat.beq t 180 then some ⟨.other, 1, false, [.nilf]⟩ else none) else (bif Nat.beq t 181 then some ⟨.other, 1, false, [.nilf]⟩ else none)))) else (bif Nat.blt t 185 then (bif Nat.blt t 183 then (bif Nat.beq t 182 then some ⟨.other, 1, false, [.nilf]⟩ else none) else (bif Nat.blt t 184 then (bif Nat.beq t 183 then some ⟨.array 16 5 1, 16, true, [.run .u8 16 (zeros 16)]⟩ else none) else (bif Nat.beq t 184 then some ⟨.array 11 183 16, 176, true, [.run .u8 176 (zeros 176)]⟩ else none))) else (bif Nat.blt t 186 then (bif Nat.beq t 185 then some ⟨.struct [(0, 184, 176)], 176, true, [.run .u8 176 (zeros 176)]⟩ else none) else (bif Nat.blt t 187 then (bif Nat.beq t 186 then some ⟨.struct [(0, 184, 176)], 176, true, [.run .u8 176 (zeros 176)]⟩ else none) else (bif Nat.beq t 187 then some ⟨.other, 1, false, [.nilf]⟩ else none))))) else (bif Nat.blt t 194 then (bif Nat.blt t 191 then (bif Nat.blt t 189 then (bif Nat.beq t 188 then some ⟨.other, 1, false, [.nilf]⟩ else none) else (bif Nat.blt t 190 then (bif Nat.beq t 189 then some ⟨.array 256 5 1, 256, true, [.run .u8 256 (zeros 256)]⟩ else none) else (bif Nat.beq t 190 then some ⟨.other, 1, false, [.nilf]⟩ else none))) else (bif Nat.blt t 192 then (bif Nat.beq t 191 then some ⟨.other, 1, false, [.nilf]⟩ else none) else (bif Nat.blt t 193 then (bif Nat.beq t 192 then some ⟨.array 8 88 1, 8, true, [.run .u32 8 (zeros 8)]⟩ else none) else (bif Nat.beq t 193 then some ⟨.array 8 88 1, 8, true, [.run .u32 8 (zeros 8)]⟩ else none)))) else (bif Nat.blt t 197 then (bif Nat.blt t 195 then (bif Nat.beq t 194 then some ⟨.array 64 5 1, 64, true, [.run .u8 64 (zeros 64)]⟩ else none) else (bif Nat.blt t 196 then (bif Nat.beq t 195 then some ⟨.struct [(0, 193, 8), (8, 194, 64), (72, 138, 1)], 73, true, [.run .u32 8 (zeros 8), .run .u8 64 (zeros 64), .int .u64 0]⟩ else none) else (bif Nat.beq t 196 then some ⟨.struct [(0, 193, 8), (8, 194, 64), (72, 138, 1)], 73, true, [.run .u32 8 (zeros 8), .run .u8 64 (zeros 64), .int .u64 0]⟩ else none))) else (bif Nat.blt t 198 then (bif Nat.beq t 197 then some ⟨.other, 1, false, [.nilf]⟩ else none) else (bif Nat.blt t 199 then (bif Nat.beq t 198 then some ⟨.other, 1, false, [.nilf]⟩ else none) else (bif Nat.beq t 199 then some ⟨.other, 1, false, [.nilf]⟩ else none))))))))) else (bif Nat.blt t 302 then (bif Nat.blt t 250 then (bif Nat.blt t 227 then (bif Nat.blt t 214 then (bif Nat.blt t 206 then (bif Nat.blt t 202 then (bif Nat.blt t 201 then (bif Nat.beq t 200 then some ⟨.other, 1, false, [.nilf]⟩ else none) else (bif Nat.beq t 201 then some ⟨.other, 1, false, [.nilf]⟩ else none)) else (bif Nat.blt t 203 then (bif Nat.beq t 202 then some ⟨.other, 1, false, [.nilf]⟩ else none) else (bif Nat.blt t 205 then (bif Nat.beq t 203 then some ⟨.other, 1, false, [.nilf]⟩ else none) else (bif Nat.beq t 205 then some ⟨.other, 1, false, [.nilf]⟩ else none)))) else (bif Nat.blt t 210 then (bif Nat.blt t 207 then (bif Nat.beq t 206 then some ⟨.other, 1, false, [.nilf]⟩ else none) else (bif Nat.blt t 209 then (bif Nat.beq t 207 then some ⟨.other, 1, false, [.nilf]⟩ else none) else (bif Nat.beq t 209 then some ⟨.other, 1, false, [.nilf]⟩ else none))) else (bif Nat.blt t 211 then (bif Nat.beq t 210 then some ⟨.slice 4 1, 1, false, [.sl none 0 0]⟩ else none) else (bif Nat.blt t 212 then (bif Nat.beq t 211 then some ⟨.other, 1, false, [.nilf]⟩ else none) else (bif Nat.beq t 212 then some ⟨.int .i64, 1, false, [.int .i64 0]⟩ else none))))) else (bif Nat.blt t 221 then (bif Nat.blt t 218 then (bif Nat.blt t 215 then (bif Nat.beq t 214 then some ⟨.other, 1, false, [.nilf]⟩ else none) else (bif Nat.blt t 216 then (bif Nat.beq t 215 then some ⟨.other, 1, false, [.nilf]⟩ else none) else (bif Nat.beq t 216 then some ⟨.other, 1, false, [.nilf]⟩ else none))) else (bif Nat.blt t 219 then (bif Nat.beq t 218 then some ⟨.other, 1, false, [.nilf]⟩ else none) else (bif Nat.blt t 220 then (bif Nat.beq t 219 then some ⟨.other, 1, false, [.nilf]⟩ else none) else (bif Nat.beq t 220 then some ⟨.other, 1, false, [.nilf]⟩ else none)))) else (bif Nat.blt t 224 then (bif Nat.blt t 222 then (bif Nat.beq t 221 then some ⟨.array 10 3 1, 10, true, [.run .i64 10 (zeros 10)]⟩ else none) else (bif Nat.blt t 223 then (bif Nat.beq t 222 then some ⟨.other, 1, false, [.nilf]⟩ else none) else (bif Nat.beq t 223 then some ⟨.array 4 5 1, 4, true, [.run .u8 4 (zeros 4)]⟩ else none))) else (bif Nat.blt t 225 then (bif Nat.beq t 224 then some ⟨.array 44 223 4, 176, true, [.run .u8 176 (zeros 176)]⟩ else none) else (bif Nat.blt t 226 then (bif Nat.beq t 225 then some ⟨.other, 1, false, [.nilf]⟩ else none) else (bif Nat.beq t 226 then some ⟨.other, 1, false, [.nilf]⟩ else none)))))) else (bif Nat.blt t 238 then (bif Nat.blt t 232 then (bif Nat.blt t 229 then (bif Nat.blt t 228 then (bif Nat.beq t 227 then some ⟨.other, 1, false, [.nilf]⟩ else none) else (bif Nat.beq t 228 then some ⟨.other, 1, false, [.nilf]⟩ else none)) else (bif Nat.blt t 230 then (bif Nat.beq t 229 then some ⟨.other, 1, false, [.nilf]⟩ else none) else (bif Nat.blt t 231 then (bif Nat.beq t 230 then some ⟨.other, 1, false, [.nilf]⟩ else none) else (bif Nat.beq t 231 then some ⟨.other, 1, false, [.nilf]⟩ else none)))) else (bif Nat.blt t 235 then (bif Nat.blt t 233 then (bif Nat.beq t 232 then some ⟨.other, 1, false, [.nilf]⟩ else none) else (bif Nat.blt t 234 then (bif Nat.beq t 233 then some ⟨.other, 1, false, [.nilf]⟩ else none) else (bif Nat.beq t 234 then some ⟨.other, 1, false, [.nilf]⟩ else none))) else (bif Nat.blt t 236 then (bif Nat.beq t 235 then some ⟨.other, 1, false, [.nilf]⟩ else none) else (bif Nat.blt t 237 then (bif Nat.beq t 236 then some ⟨.other, 1, false, [.nilf]⟩ else none) else (bif Nat.beq t 237 then some ⟨.other, 1, false, [.nilf]⟩ else none))))) else (bif Nat.blt t 244 then (bif Nat.blt t 241 then (bif Nat.blt t 239 then (bif Nat.beq t 238 then some ⟨.other, 1, false, [.nilf]⟩ else none) else (bif Nat.blt t 240 then (bif Nat.beq t 239 then some ⟨.int .u64, 1, false, [.int .u64 0]⟩ else none) else (bif Nat.beq t 240 then some ⟨.other, 1, false, [.nilf]⟩ else none))) else (bif Nat.blt t 242 then (bif Nat.beq t 241 then some ⟨.other, 1, false, [.nilf]⟩ else none) else (bif Nat.blt t 243 then (bif Nat.beq t 242 then some ⟨.other, 1, false, [.nilf]⟩ else none) else (bif Nat.beq t 243 then some ⟨.ptr, 1, false, [.nilp]⟩ else none)))) else (bif Nat.blt t 247 then (bif Nat.blt t 245 then (bif Nat.beq t 244 then some ⟨.other, 1, false, [.nilf]⟩ else none) else (bif Nat.blt t 246 then (bif Nat.beq t 245 then some ⟨.other, 1, false, [.nilf]⟩ else none) else (bif Nat.beq t 246 then some ⟨.array 64 88 1, 64, true, [.run .u32 64 (zeros 64)]⟩ else none))) else (bif Nat.blt t 248 then (bif Nat.beq t 247 then some ⟨.other, 1, false, [.nilf]⟩ else none) else (bif Nat.blt t 249 then (bif Nat.beq t 248 then some ⟨.other, 1, false, [.nilf]⟩ else none) else (bif Nat.beq t 249 then some ⟨.other, 1, false, [.nilf]⟩ else none))))))) else (bif Nat.blt t 279 then (bif Nat.blt t 265 then (bif Nat.blt t 257 then (bif Nat.blt t 252 then (bif Nat.blt t 251 then (bif Nat.beq t 250 then some ⟨.struct [(0, 9, 1), (1, 3, 1)], 2, true, [.str ⟨#[]⟩, .int .i64 0]⟩ else none) else (bif Nat.beq t 251 then some ⟨.struct [(0, 9, 1), (1, 3, 1)], 2, true, [.str ⟨#[]⟩, .int .i64 0]⟩ else none)) else (bif Nat.blt t 254 then (bif Nat.beq t 252 then some ⟨.other, 1, false, [.nilf]⟩ else none) else (bif Nat.blt t 255 then (bif Nat.beq t 254 then some ⟨.other, 1, false, [.nilf]⟩ else none) else (bif Nat.beq t 255 then some ⟨.ptr, 1, false, [.nilp]⟩ else none)))) else (bif Nat.blt t 261 then (bif Nat.blt t 258 then (bif Nat.beq t 257 then some ⟨.other, 1, false, [.nilf]⟩ else none) else (bif Nat.blt t 260 then (bif Nat.beq t 258 then some ⟨.other, 1, false, [.nilf]⟩ else none) else (bif Nat.beq t 260 then some ⟨.other, 1, false, [.nilf]⟩ else none))) else (bif Nat.blt t 262 then (bif Nat.beq t 261 then some ⟨.other, 1, false, [.nilf]⟩ else none) else (bif Nat.blt t 264 then (bif Nat.beq t 262 then some ⟨.other, 1, false, [.nilf]⟩ else none) else (bif Nat.beq t 264 then some ⟨.other, 1, false, [.nilf]⟩ else none))))) else (bif Nat.blt t 272 then (bif Nat.blt t 269 then (bif Nat.blt t 266 then (bif Nat.beq t 265 then some ⟨.ptr, 1, false, [.nilp]⟩ else none) else (bif Nat.blt t 268 then (bif Nat.beq t 266 then some ⟨.ptr, 1, false, [.nilp]⟩ else none) else (bif Nat.beq t 268 then some ⟨.other, 1, false, [.nilf]⟩ else none))) else (bif Nat.blt t 270 then (bif Nat.beq t 269 then some ⟨.ptr, 1, false, [.nilp]⟩ else none) else (bif Nat.blt t 271 then (bif Nat.beq t 270 then some ⟨.other, 1, false, [.nilf]⟩ else none) else (bif Nat.beq t 271 then some ⟨.struct [(0, 3, 1), (1, 113, 17), (18, 4, 1)], 19, true, [.int .i64 0, .sl none 0 0, .run .u8 16 (zeros 16), .bool false]⟩ else none)))) else (bif Nat.blt t 275 then (bif Nat.blt t 273 then (bif Nat.beq t 272 then some ⟨.struct [(0, 3, 1), (1, 113, 17), (18, 4, 1)], 19, true, [.int .i64 0, .sl none 0 0, .run .u8 16 (zeros 16), .bool false]⟩ else none) else (bif Nat.blt t 274 then (bif Nat.beq t 273 then some ⟨.other, 1, false, [.nilf]⟩ else none) else (bif Nat.beq t 274 then some ⟨.other, 1, false, [.nilf]⟩ else none))) else (bif Nat.blt t 276 then (bif Nat.beq t 275 then some ⟨.other, 1, false, [.nilf]⟩ else none) else (bif Nat.blt t 278 then (bif Nat.beq t 276 then some ⟨.other, 1, false, [.nilf]⟩ else none) else (bif Nat.beq t 278 then some ⟨.other, 1, false, [.nilf]⟩ else none)))))) else (bif Nat.blt t 290 then (bif Nat.blt t 284 then (bif Nat.blt t 281 then (bif Nat.blt t 280 then (bif Nat.beq t 279 then some ⟨.other, 1, false, [.nilf]⟩ else none) else (bif Nat.beq t 280 then some ⟨.other, 1, false, [.nilf]⟩ else none)) else (bif Nat.blt t 282 then (bif Nat.beq t 281 then some ⟨.slice 32 1, 1, false, [.sl none 0 0]⟩ else none) else (bif Nat.blt t 283 then (bif Nat.beq t 282 then some ⟨.struct [], 0, true, []⟩ else none) else (bif Nat.beq t 283 then some ⟨.struct [], 0, true, []⟩ else none)))) else (bif Nat.blt t 287 then (bif Nat.blt t 285 then (bif Nat.beq t 284 then some ⟨.struct [], 0, true, []⟩ else none) else (bif Nat.blt t 286 then (bif Nat.beq t 285 then some ⟨.struct [(0, 283, 0), (0, 284, 0), (0, 138, 1)], 1, true, [.int .u64 0]⟩ else none) else (bif Nat.beq t 286 then some ⟨.struct [(0, 283, 0), (0, 284, 0), (0, 138, 1)], 1, true, [.int .u64 0]⟩ else none))) else (bif Nat.blt t 288 then (bif Nat.beq t 287 then some ⟨.struct [(0, 282, 0), (0, 286, 1), (1, 88, 1)], 2, true, [.int .u64 0, .int .u32 0]⟩ else none) else (bif Nat.blt t 289 then (bif Nat.beq t 288 then some ⟨.struct [(0, 282, 0), (0, 286, 1), (1, 88, 1)], 2, true, [.int .u64 0, .int .u32 0]⟩ else none) else (bif Nat.beq t 289 then some ⟨.other, 1, false, [.nilf]⟩ else none))))) else (bif Nat.blt t 296 then (bif Nat.blt t 293 then (bif Nat.blt t 291 then (bif Nat.beq t 290 then some ⟨.other, 1, false, [.nilf]⟩ else none) else (bif Nat.blt t 292 then (bif Nat.beq t 291 then some ⟨.slice 294 1, 1, false, [.sl none 0 0]⟩ else none) else (bif Nat.beq t 292 then some ⟨.struct [(0, 291, 1)], 1, true, [.sl none 0 0]⟩ else none))) else (bif Nat.blt t 294 then (bif Nat.beq t 293 then some ⟨.struct [(0, 291, 1)], 1, true, [.sl none 0 0]⟩ else none) else (bif Nat.blt t 295 then (bif Nat.beq t 294 then some ⟨.ptr, 1, false, [.nilp]⟩ else none) else (bif Nat.beq t 295 then some ⟨.struct [(0, 21, 1), (1, 88, 1)], 2, true, [.int .i32 0, .int .u32 0]⟩ else none)))) else (bif Nat.blt t 299 then (bif Nat.blt t 297 then (bif Nat.beq t 296 then some ⟨.struct [(0, 21, 1), (1, 88, 1)], 2, true, [.int .i32 0, .int .u32 0]⟩ else none) else (bif Nat.blt t 298 then (bif Nat.beq t 297 then some ⟨.struct [(0, 282, 0), (0, 296, 2)], 2, true, [.int .i32 0, .int .u32 0]⟩ else none) else (bif Nat.beq t 298 then some ⟨.struct [(0, 282, 0), (0, 296, 2)], 2, true, [.int .i32 0, .int .u32 0]⟩ else none))) else (bif Nat.blt t 300 then (bif Nat.beq t 299 then some ⟨.struct [(0, 298, 2), (2, 75, 1)], 3, true, [.int .i32 0, .int .u32 0, .map none]⟩ else none) else (bif Nat.blt t 301 then (bif Nat.beq t 300 then some ⟨.struct [(0, 298, 2), (2, 75, 1)], 3, true, [.int .i32 0, .int .u32 0, .map none]⟩ else none) else (bif Nat.beq t 301 then some ⟨.other, 1, false, [.map none]⟩ else none)))))))) else (bif Nat.blt t 350 then (bif Nat.blt t 325 then (bif Nat.blt t 313 then (bif Nat.blt t 307 then (bif Nat.blt t 304 then (bif Nat.blt t 303 then (bif Nat.beq t 302 then some ⟨.struct [(0, 301, 1), (1, 3, 1)], 2, true, [.map none, .int .i64 0]⟩ else none) else (bif Nat.beq t 303 then some ⟨.struct [(0, 301, 1), (1, 3, 1)], 2, true, [.map none, .int .i64 0]⟩ else none)) else (bif Nat.blt t 305 then (bif Nat.beq t 304 then some ⟨.other, 1, false, [.chan none]⟩ else none) else (bif Nat.blt t 306 then (bif Nat.beq t 305 then some ⟨.other, 1, false, [.chan none]⟩ else none) else (bif Nat.beq t 306 then some ⟨.other, 1, false, [.chan none]⟩ else none)))) else (bif Nat.blt t 310 then (bif Nat.blt t 308 then (bif Nat.beq t 307 then some ⟨.other, 1, false, [.nilf]⟩ else none) else (bif Nat.blt t 309 then (bif Nat.beq t 308 then some ⟨.other, 1, false, [.nilf]⟩ else none) else (bif Nat.beq t 309 then some ⟨.ptr, 1, false, [.nilp]⟩ else none))) else (bif Nat.blt t 311 then (bif Nat.beq t 310 then some ⟨.other, 1, false, [.nilf]⟩ else none) else (bif Nat.blt t 312 then (bif Nat.beq t 311 then some ⟨.other, 1, false, [.nilp]⟩ else none) else (bif Nat.beq t 312 then some ⟨.int .i64, 1, false, [.int .i64 0]⟩ else none))))) else (bif Nat.blt t 319 then (bif Nat.blt t 316 then (bif Nat.blt t 314 then (bif Nat.beq t 313 then some ⟨.other, 1, false, [.nilf]⟩ else none) else (bif Nat.blt t 315 then (bif Nat.beq t 314 then some ⟨.other, 1, false, [.nilf]⟩ else none) else (bif Nat.beq t 315 then some ⟨.other, 1, false, [.nilf]⟩ else none))) else (bif Nat.blt t 317 then (bif Nat.beq t 316 then some ⟨.ptr, 1, false, [.nilp]⟩ else none) else (bif Nat.blt t 318 then (bif Nat.beq t 317 then some ⟨.other, 1, false, [.nilf]⟩ else none) else (bif Nat.beq t 318 then some ⟨.other, 1, false, [.nilf]⟩ else none)))) else (bif Nat.blt t 322 then (bif Nat.blt t 320 then (bif Nat.beq t 319 then some ⟨.other, 1, false, [.nilf]⟩ else none) else (bif Nat.blt t 321 then (bif Nat.beq t 320 then some ⟨.other, 1, false, [.nilf]⟩ else none) else (bif Nat.beq t 321 then some ⟨.other, 1, false, [.nilf]⟩ else none))) else (bif Nat.blt t 323 then (bif Nat.beq t 322 then some ⟨.other, 1, false, [.nilf]⟩ else none) else (bif Nat.blt t 324 then (bif Nat.beq t 323 then some ⟨.other, 1, false, [.chan none]⟩ else none) else (bif Nat.beq t 324 then some ⟨.other, 1, false, [.chan none]⟩ else none)))))) else (bif Nat.blt t 336 then (bif Nat.blt t 330 then (bif Nat.blt t 327 then (bif Nat.blt t 326 then (bif Nat.beq t 325 then some ⟨.other, 1, false, [.nilf]⟩ else none) else (bif Nat.beq t 326 then some ⟨.ptr, 1, false, [.nilp]⟩ else none)) else (bif Nat.blt t 328 then (bif Nat.beq t 327 then some ⟨.other, 1, false, [.nilf]⟩ else none) else (bif Nat.blt t 329 then (bif Nat.beq t 328 then some ⟨.ptr, 1, false, [.nilp]⟩ else none) else (bif Nat.beq t 329 then some ⟨.other, 1, false, [.nilf]⟩ else none)))) else (bif Nat.blt t 333 then (bif Nat.blt t 331 then (bif Nat.beq t 330 then some ⟨.other, 1, false, [.nilf]⟩ else none) else (bif Nat.blt t 332 then (bif Nat.beq t 331 then some ⟨.other, 1, false, [.nilf]⟩ else none) else (bif Nat.beq t 332 then some ⟨.ptr, 1, false, [.nilp]⟩ else none))) else (bif Nat.blt t 334 then (bif Nat.beq t 333 then some ⟨.ptr, 1, false, [.nilp]⟩ else none) else (bif Nat.blt t 335 then (bif Nat.beq t 334 then some ⟨.other, 1, false, [.nilf]⟩ else none) else (bif Nat.beq t 335 then some ⟨.ptr, 1, false, [.nilp]⟩ else none))))) else (bif Nat.blt t 343 then (bif Nat.blt t 339 then (bif Nat.blt t 337 then (bif Nat.beq t 336 then some ⟨.other, 1, false, [.nilf]⟩ else none) else (bif Nat.blt t 338 then (bif Nat.beq t 337 then some ⟨.other, 1, false, [.nilf]⟩ else none) else (bif Nat.beq t 338 then some ⟨.other, 1, false, [.nilf]⟩ else none))) else (bif Nat.blt t 340 then (bif Nat.beq t 339 then some ⟨.struct [(0, 58, 1), (1, 3, 1), (2, 4, 1), (3, 4, 1), (4, 3, 1), (5, 173, 1)], 6, true, [.sl none 0 0, .int .i64 0, .bool false, .bool false, .int .i64 0, .sl none 0 0]⟩ else none) else (bif Nat.blt t 342 then (bif Nat.beq t 340 then some ⟨.struct [(0, 58, 1), (1, 3, 1), (2, 4, 1), (3, 4, 1), (4, 3, 1), (5, 173, 1)], 6, true, [.sl none 0 0, .int .i64 0, .bool false, .bool false, .int .i64 0, .sl none 0 0]⟩ else none) else (bif Nat.beq t 342 then some ⟨.other, 1, false, [.nilf]⟩ else none)))) else (bif Nat.blt t 347 then (bif Nat.blt t 345 then (bif Nat.beq t 343 then some ⟨.ptr, 1, false, [.nilp]⟩ else none) else (bif Nat.blt t 346 then (bif Nat.beq t 345 then some ⟨.other, 1, false, [.nilf]⟩ else none) else (bif Nat.beq t 346 then some ⟨.slice 372 1, 1, false, [.sl none 0 0]⟩ else none))) else (bif Nat.blt t 348 then (bif Nat.beq t 347 then some ⟨.ptr, 1, false, [.nilp]⟩ else none) else (bif Nat.blt t 349 then (bif Nat.beq t 348 then some ⟨.ptr, 1, false, [.nilp]⟩ else none) else (bif Nat.beq t 349 then some ⟨.slice 99 1, 1, false, [.sl none 0 0]⟩ else none))))))) else (bif Nat.blt t 374 then (bif Nat.blt t 362 then (bif Nat.blt t 355 then (bif Nat.blt t 352 then (bif Nat.blt t 351 then (bif Nat.beq t 350 then some ⟨.struct [(0, 24, 11), (11, 29, 3), (14, 101, 4), (18, 27, 2), (20, 22, 1), (21, 126, 3), (24, 4, 1), (25, 346, 1), (26, 347, 1), (27, 347, 1), (28, 347, 1), (29, 347, 1), (30, 348, 1), (31, 266, 1), (32, 346, 1), (33, 3, 1), (34, 105, 1), (35, 99, 1), (36, 58, 1), (37, 349, 1), (38, 32, 1), (39, 42, 5), (44, 44, 11)], 55, true, [.sl none 0 0, .int .i64 0, .int .i64 0, .int .i64 0, .int .i64 0, .int .i64 0, .int .i64 0, .int .i64 0, .int .i64 0, .int .i64 0, .int .i64 0, .int .i64 0, .int .i64 0, .sl none 0 0, .int .i64 0, .int .i64 0, .int .i64 0, .sl none 0 0, .int .i64 0, .sl none 0 0, .sl none 0 0, .sl none 0 0, .sl none 0 0, .sl none 0 0, .bool false, .sl none 0 0, .nilp, .nilp, .nilp, .nilp, .nilp, .nilp, .sl none 0 0, .int .i64 0, .sl none 0 0, .sl none 0 0, .sl none 0 0, .sl none 0 0, .int .i64 0, .int .i64 0, .int .i64 0, .int .i64 0, .int .i64 0, .int .i64 0, .sl none 0 0, .int .i64 0, .int .i64 0, .sl none 0 0, .int .i64 0, .int .i64 0, .int .i64 0, .int .i64 0, .int .i64 0, .int .i64 0, .int .i64 0]⟩ else none) else (bif Nat.beq t 351 then some ⟨.struct [(0, 24, 11), (11, 29, 3), (14, 101, 4), (18, 27, 2), (20, 22, 1), (21, 126, 3), (24, 4, 1), (25, 346, 1), (26, 347, 1), (27, 347, 1), (28, 347, 1), (29, 347, 1), (30, 348, 1), (31, 266, 1), (32, 346, 1), (33, 3, 1), (34, 105, 1), (35, 99, 1), (36, 58, 1), (37, 349, 1), (38, 32, 1), (39, 42, 5), (44, 44, 11)], 55, true, [.sl none 0 0, .int .i64 0, .int .i64 0, .int .i64 0, .int .i64 0, .int .i64 0, .int .i64 0, .int .i64 0, .int .i64 0, .int .i64 0, .int .i64 0, .int .i64 0, .int .i64 0, .sl none 0 0, .int .i64 0, .int .i64 0, .int .i64 0, .sl none 0 0, .int .i64 0, .sl none 0 0, .sl none 0 0, .sl none 0 0, .sl none 0 0, .sl none 0 0, .bool false, .sl none 0 0, .nilp, .nilp, .nilp, .nilp, .nilp, .nilp, .sl none 0 0, .int .i64 0, .sl none 0 0, .sl none 0 0, .sl none 0 0, .sl none 0 0, .int .i64 0, .int .i64 0, .int .i64 0, .int .i64 0, .int .i64 0, .int .i64 0, .sl none 0 0, .int .i64 0, .int .i64 0, .sl none 0 0, .int .i64 0, .int .i64 0, .int .i64 0, .int .i64 0, .int .i64 0, .int .i64 0, .int .i64 0]⟩ else none)) else (bif Nat.blt t 353 then (bif Nat.beq t 352 then some ⟨.other, 1, false, [.nilf]⟩ else none) else (bif Nat.blt t 354 then (bif Nat.beq t 353 then some ⟨.slice 370 2, 1, false, [.sl none 0 0]⟩ else none) else (bif Nat.beq t 354 then some ⟨.other, 1, false, [.nilf]⟩ else none)))) else (bif Nat.blt t 358 then (bif Nat.blt t 356 then (bif Nat.beq t 355 then some ⟨.other, 1, false, [.nilf]⟩ else none) else (bif Nat.blt t 357 then (bif Nat.beq t 356 then some ⟨.ptr, 1, false, [.nilp]⟩ else none) else (bif Nat.beq t 357 then some ⟨.slice 356 1, 1, false, [.sl none 0 0]⟩ else none))) else (bif Nat.blt t 360 then (bif Nat.beq t 358 then some ⟨.ptr, 1, false, [.nilp]⟩ else none) else (bif Nat.blt t 361 then (bif Nat.beq t 360 then some ⟨.other, 1, false, [.nilf]⟩ else none) else (bif Nat.beq t 361 then some ⟨.struct [(0, 3, 1), (1, 113, 17), (18, 4, 1), (19, 99, 1)], 20, true, [.int .i64 0, .sl none 0 0, .run .u8 16 (zeros 16), .bool false, .sl none 0 0]⟩ else none))))) else (bif Nat.blt t 368 then (bif Nat.blt t 365 then (bif Nat.blt t 363 then (bif Nat.beq t 362 then some ⟨.struct [(0, 3, 1), (1, 113, 17), (18, 4, 1), (19, 99, 1)], 20, true, [.int .i64 0, .sl none 0 0, .run .u8 16 (zeros 16), .bool false, .sl none 0 0]⟩ else none) else (bif Nat.blt t 364 then (bif Nat.beq t 363 then some ⟨.ptr, 1, false, [.nilp]⟩ else none) else (bif Nat.beq t 364 then some ⟨.struct [(0, 358, 1), (1, 363, 1)], 2, true, [.nilp, .nilp]⟩ else none))) else (bif Nat.blt t 366 then (bif Nat.beq t 365 then some ⟨.struct [(0, 358, 1), (1, 363, 1)], 2, true, [.nilp, .nilp]⟩ else none) else (bif Nat.blt t 367 then (bif Nat.beq t 366 then some ⟨.other, 1, false, [.nilf]⟩ else none) else (bif Nat.beq t 367 then some ⟨.other, 1, false, [.nilf]⟩ else none)))) else (bif Nat.blt t 371 then (bif Nat.blt t 369 then (bif Nat.beq t 368 then some ⟨.other, 1, false, [.nilf]⟩ else none) else (bif Nat.blt t 370 then (bif Nat.beq t 369 then some ⟨.struct [(0, 30, 1), (1, 30, 1)], 2, true, [.nilf, .nilf]⟩ else none) else (bif Nat.beq t 370 then some ⟨.struct [(0, 30, 1), (1, 30, 1)], 2, true, [.nilf, .nilf]⟩ else none))) else (bif Nat.blt t 372 then (bif Nat.beq t 371 then some ⟨.other, 1, false, [.nilf]⟩ else none) else (bif Nat.blt t 373 then (bif Nat.beq t 372 then some ⟨.ptr, 1, false, [.nilp]⟩ else none) else (bif Nat.beq t 373 then some ⟨.slice 347 1, 1, false, [.sl none 0 0]⟩ else none)))))) else (bif Nat.blt t 385 then (bif Nat.blt t 379 then (bif Nat.blt t 376 then (bif Nat.blt t 375 then (bif Nat.beq t 374 then some ⟨.other, 1, false, [.nilf]⟩ else none) else (bif Nat.beq t 375 then some ⟨.struct [(0, 347, 1), (1, 347, 1), (2, 362, 20), (22, 4, 1), (23, 4, 1), (24, 1, 1), (25, 374, 1), (26, 1, 1), (27, 1, 1)], 28, true, [.nilp, .nilp, .int .i64 0, .sl none 0 0, .run .u8 16 (zeros 16), .bool false, .sl none 0 0, .bool false, .bool false, .nilf, .nilf, .nilf, .nilf]⟩ else none)) else (bif Nat.blt t 377 then (bif Nat.beq t 376 then some ⟨.struct [(0, 347, 1), (1, 347, 1), (2, 362, 20), (22, 4, 1), (23, 4, 1), (24, 1, 1), (25, 374, 1), (26, 1, 1), (27, 1, 1)], 28, true, [.nilp, .nilp, .int .i64 0, .sl none 0 0, .run .u8 16 (zeros 16), .bool false, .sl none 0 0, .bool false, .bool false, .nilf, .nilf, .nilf, .nilf]⟩ else none) else (bif Nat.blt t 378 then (bif Nat.beq t 377 then some ⟨.slice 362 20, 1, false, [.sl none 0 0]⟩ else none) else (bif Nat.beq t 378 then some ⟨.struct [(0, 377, 1), (1, 3, 1), (2, 4, 1)], 3, true, [.sl none 0 0, .int .i64 0, .bool false]⟩ else none)))) else (bif Nat.blt t 382 then (bif Nat.blt t 380 then (bif Nat.beq t 379 then some ⟨.struct [(0, 377, 1), (1, 3, 1), (2, 4, 1)], 3, true, [.sl none 0 0, .int .i64 0, .bool false]⟩ else none) else (bif Nat.blt t 381 then (bif Nat.beq t 380 then some ⟨.other, 1, false, [.map none]⟩ else none) else (bif Nat.beq t 381 then some ⟨.struct [(0, 380, 1), (1, 3, 1)], 2, true, [.map none, .int .i64 0]⟩ else none))) else (bif Nat.blt t 383 then (bif Nat.beq t 382 then some ⟨.struct [(0, 380, 1), (1, 3, 1)], 2, true, [.map none, .int .i64 0]⟩ else none) else (bif Nat.blt t 384 then (bif Nat.beq t 383 then some ⟨.other, 1, false, [.nilf]⟩ else none) else (bif Nat.beq t 384 then some ⟨.other, 1, false, [.nilf]⟩ else none))))) else (bif Nat.blt t 393 then (bif Nat.blt t 388 then (bif Nat.blt t 386 then (bif Nat.beq t 385 then some ⟨.other, 1, false, [.nilf]⟩ else none) else (bif Nat.blt t 387 then (bif Nat.beq t 386 then some ⟨.other, 1, false, [.nilf]⟩ else none) else (bif Nat.beq t 387 then some ⟨.other, 1, false, [.nilf]⟩ else none))) else (bif Nat.blt t 390 then (bif Nat.beq t 388 then some ⟨.other, 1, false, [.nilf]⟩ else none) else (bif Nat.blt t 391 then (bif Nat.beq t 390 then some ⟨.other, 1, false, [.nilf]⟩ else none) else (bif Nat.beq t 391 then some ⟨.other, 1, false, [.nilf]⟩ else none)))) else (bif Nat.blt t 397 then (bif Nat.blt t 395 then (bif Nat.beq t 393 then some ⟨.other, 1, false, [.nilf]⟩ else none) else (bif Nat.blt t 396 then (bif Nat.beq t 395 then some ⟨.other, 1, false, [.nilf]⟩ else none) else (bif Nat.beq t 396 then some ⟨.other, 1, false, [.nilf]⟩ else none))) else (bif Nat.blt t 398 then (bif Nat.beq t 397 then some ⟨.other, 1, false, [.nilf]⟩ else none) else (bif Nat.blt t 399 then (bif Nat.beq t 398 then some ⟨.other, 1, false, [.nilf]⟩ else none) else (bif Nat.beq t 399 then some ⟨.other, 1, false, [.nilf]⟩ else none)))))))))
def tabN : Nat := 400
def goT (g : Nat) : Bool := Nat.ble 3 g && Nat.blt g 35
def tab : Tab := mkTab tabTy tabN goT 308
theorem tab_ok : TabOK Tryz.prog tab := mkTab_ok (by decide +kernel) (by decide +kernel) (by decide +kernel)
end Go.Proofs.YtfiephhdkloaeaaGreat.Ch
end

section
open Go Go.Conc Go.Proofs Go.Proofs.YtfiephhdkloaeaaGreat.Ch
set_option maxRecDepth 100000
set_option maxHeartbeats 1000000
namespace Go.Proofs.YtfiephhdkloaeaaGreat.Ch
theorem fnc {m : Bool} {f : FuncId} {fn : Func} (hf : Tryz.prog.funcs[f]? = some fn) {args : List AV} {h : Hp} {R : AV → Hp → Prop} (ha : bdL 0 args = true ∧ wfL args) (hn : Nat.ble args.length fn.ntmps = true)
    (hv : vcBody Tryz.prog m tab fn args h R) : CallsV Tryz.prog m f args h R := vcBody_sound tab_ok hf ha (Nat.le_of_ble_eq_true hn) hv
abbrev An := Ans Tryz.prog
theorem beqT {a : Nat} {b : Nat} (h : decide ((a : Int) < (b : Int)) = true) : a < b := by simpa using h
theorem beqF {a : Nat} {b : Nat} (h : decide ((a : Int) < (b : Int)) = false) : b ≤ a := by simpa using h

theorem len29 (m : Bool) (w : Win) (h : Hp) (hE : EpsAt h w.ea w.es) (ht : tot w.es ≤ 2 ^ 40) (hl : w.es.length ≤ 2 ^ 40) : An m 29 [winA w] h (.int .i64 (tot w.es)) := by
  refine fnc Tryz.func29 ⟨rfl, by simp [wfL, AV.wf, winA]⟩ rfl ?_
  unfold winA
  conv => whnf
  refine WkE.loop (ι := Nat) (fun k => [(9, .int .i64 k), (3, .int .i64 (tot (w.es.take k))), (7, .sl w.ea w.es.length w.ec), (8, .int .i64 w.es.length)]) 0 (fun k => []) (fun _ => h) (fun k => k ≤ w.es.length) (fun k => w.es.length - k) 0 (by omega) rfl
    ⟨rfl, rfl, rfl, rfl, trivial⟩ trivial rfl rfl ?_
  intro X k hk ih
  conv => whnf
  refine br (fun h1 => ?_) (fun h1 => ?_)
  · have h1 := beqT h1
    obtain ⟨e, he⟩ : ∃ e, w.es[k]? = some e := ⟨_, List.getElem?_eq_getElem h1⟩
    obtain ⟨ad, hea, hc⟩ := hE.at he
    rw [hea]
    conv => whnf
    refine ⟨⟨by omega, by omega⟩, ?_⟩
    conv => whnf
    refine LdE.agg [.int .i64 e.num, .sl e.ta e.tags.length e.tc] rfl ⟨trivial, trivial, trivial⟩ hc rfl ?_
    conv => whnf
    have hw1 : IntKind.i64.wrap ((k : Int) + 1) = ((k + 1 : Nat) : Int) := by rw [IntWalk.i64_in _ (by omega)]; omega
    have hle := tot_take_le w.es (k + 1)
    have htk := tot_take he
    have hw2 : IntKind.i64.wrap ((tot (w.es.take k) : Int) + (e.tags.length : Int)) = (tot (w.es.take (k + 1)) : Int) := by rw [IntWalk.i64_in _ (by omega)]; omega
    rw [hw1, hw2]
    refine WkE.next _ 0 [] ?_ trivial ?_ rfl (ih (k + 1) (by omega) (by omega))
    · exact ⟨rfl, rfl, by rw [hea]; rfl, rfl, trivial⟩
    · rfl
  · have h1 := beqF h1
    have : k = w.es.length := by omega
    subst this
    conv => whnf
    refine ⟨?_, rfl⟩
    rw [List.take_length]

theorem len24 (m : Bool) (w : Win) (h : Hp) (hE : EpsAt h w.ea w.es) (ht : tot w.es ≤ 2 ^ 40) (hl : w.es.length ≤ 2 ^ 40) : An m 24 [winA w] h (.int .i64 (tot w.es)) := by
  refine fnc Tryz.func24 ⟨rfl, by simp [wfL, AV.wf, winA]⟩ rfl ?_
  unfold winA
  conv => whnf
  refine WkE.loop (ι := Nat) (fun k => [(4, .int .i64 k), (3, .int .i64 (tot (w.es.take k))), (1, .bptr 0 0 0)]) 1 (fun k => [(0, 27, [.int .i64 w.newest, .sl w.ea w.es.length w.ec])]) (fun _ => h) (fun k => k ≤ w.es.length) (fun k => w.es.length - k) 0 (by omega) rfl
    ⟨rfl, rfl, rfl, trivial⟩ ⟨rfl, trivial⟩ rfl rfl ?_
  intro X k hk ih
  conv => whnf
  refine br (fun h1 => ?_) (fun h1 => ?_)
  · have h1 := beqT h1
    obtain ⟨e, he⟩ : ∃ e, w.es[k]? = some e := ⟨_, List.getElem?_eq_getElem h1⟩
    obtain ⟨ad, hea, hc⟩ := hE.at he
    rw [hea] at ih ⊢
    conv => whnf
    refine ⟨⟨by omega, by omega⟩, ?_⟩
    conv => whnf
    refine LdE.one (.sl e.ta e.tags.length e.tc) rfl rfl trivial (EpOK.sl hc) ?_
    conv => whnf
    have hw1 : IntKind.i64.wrap ((k : Int) + 1) = ((k + 1 : Nat) : Int) := by rw [IntWalk.i64_in _ (by omega)]; omega
    have hle := tot_take_le w.es (k + 1)
    have htk := tot_take he
    have hw2 : IntKind.i64.wrap ((tot (w.es.take k) : Int) + (e.tags.length : Int)) = (tot (w.es.take (k + 1)) : Int) := by rw [IntWalk.i64_in _ (by omega)]; omega
    rw [hw1, hw2]
    have := ih (k + 1) (by omega) (by omega)
    exact WkE.next _ 1 _ (by exact ⟨rfl, rfl, rfl, trivial⟩) (by exact ⟨rfl, trivial⟩) rfl rfl this
  · have h1 := beqF h1
    have : k = w.es.length := by omega
    subst this
    conv => whnf
    refine ⟨?_, rfl⟩
    rw [List.take_length]

theorem less25 (m : Bool) (a b : List Int) (h : Hp) (ha : a.length = 16) (hb : b.length = 16) : An m 25 [.agg [.run .u8 16 a], .agg [.run .u8 16 b]] h (.bool (lessF a b)) := by
  refine fnc Tryz.func25 ⟨rfl, by simp [wfL, AV.wf, ha, hb]⟩ rfl ?_
  conv => whnf
  refine WkE.loop (ι := Nat) (fun k => [(5, .int .i64 k), (2, .bptr 0 0 0), (3, .bptr 1 0 0)]) 2 (fun k => [(0, 70, [.run .u8 16 a]), (1, 70, [.run .u8 16 b])]) (fun _ => h) (fun k => k ≤ 16 ∧ lessF a b = lessF (a.drop k) (b.drop k)) (fun k => 16 - k) 0 (by simp) rfl
    ⟨rfl, rfl, rfl, trivial⟩ ⟨rfl, rfl, trivial⟩ rfl rfl ?_
  intro X k ⟨hk, hlt⟩ ih
  conv => whnf
  refine br (fun h1 => ?_) (fun h1 => ?_)
  · have h1 : k < 16 := by have := of_decide_eq_true h1; omega
    have e1 : k < a.length := by omega
    have e2 : k < b.length := by omega
    rw [lessF_drop e1 e2] at hlt
    conv => whnf
    refine ⟨⟨[(0, .q), (1, .q), (2, .q), (3, .q), (4, .q), (5, .q), (6, .q)], [0, 1, 3, 0, 8, 24, 63], by decide +kernel, ?_⟩⟩
    conv => whnf
    refine ⟨⟨by omega, by omega⟩, ?_⟩
    conv => whnf
    refine ⟨by simp; omega, ?_⟩
    conv => whnf
    refine ⟨⟨by omega, by omega⟩, ?_⟩
    conv => whnf
    refine ⟨by simp; omega, ?_⟩
    conv => whnf
    have ga : a.getD (0 + (0 + (k : Int).toNat * 1)) 0 = a[k] := by
      rw [show 0 + (0 + (k : Int).toNat * 1) = k from by simp, List.getD_eq_getElem?_getD, List.getElem?_eq_getElem e1]; rfl
    have gb : b.getD (0 + (0 + (k : Int).toNat * 1)) 0 = b[k] := by
      rw [show 0 + (0 + (k : Int).toNat * 1) = k from by simp, List.getD_eq_getElem?_getD, List.getElem?_eq_getElem e2]; rfl
    rw [ga, gb]
    refine br (fun h2 => ?_) (fun h2 => ?_)
    · have h2 : ¬ a[k] = b[k] := by simpa using h2
      rw [if_neg h2] at hlt
      conv => whnf
      refine ⟨⟨[(0, .q), (1, .q), (2, .q), (3, .q), (4, .q), (5, .q), (6, .q), (7, .q)], [0, 1, 3, 0, 8, 24, 63, 127], by decide +kernel, ?_⟩⟩
      conv => whnf
      refine ⟨⟨by omega, by omega⟩, ?_⟩
      conv => whnf
      refine ⟨by simp; omega, ?_⟩
      conv => whnf
      refine ⟨⟨by omega, by omega⟩, ?_⟩
      conv => whnf
      refine ⟨by simp; omega, ?_⟩
      conv => whnf
      rw [ga, gb]
      refine br (fun h3 => ?_) (fun h3 => ?_)
      · conv => whnf
        exact ⟨by rw [hlt, h3], rfl⟩
      · conv => whnf
        exact ⟨by rw [hlt, h3], rfl⟩
    · have h2 : a[k] = b[k] := by simpa using h2
      rw [if_pos h2] at hlt
      conv => whnf
      have hw1 : IntKind.i64.wrap ((k : Int) + 1) = ((k + 1 : Nat) : Int) := by rw [IntWalk.i64_in _ (by omega)]; omega
      rw [hw1]
      have := ih (k + 1) ⟨by omega, hlt⟩ (by omega)
      exact WkE.next _ 2 _ (by exact ⟨rfl, rfl, rfl, trivial⟩) (by exact ⟨rfl, rfl, trivial⟩) rfl rfl this
  · have h1 : 16 ≤ k := by have := of_decide_eq_false h1; omega
    conv => whnf
    refine ⟨?_, rfl⟩
    rw [hlt]
    have : k = 16 := by omega
    subst this
    rw [List.drop_of_length_le (by omega)]
    rfl
end Go.Proofs.YtfiephhdkloaeaaGreat.Ch
end

section
open Go Go.Conc Go.Proofs Go.Proofs.YtfiephhdkloaeaaGreat.Ch
set_option maxRecDepth 100000
set_option maxHeartbeats 2000000
namespace Go.Proofs.YtfiephhdkloaeaaGreat.Ch
theorem quo2 (n : Nat) (hn : n ≤ 2 ^ 40) : IntKind.i64.wrap ((n : Int).tdiv 2) = ((n / 2 : Nat) : Int) := by
  rw [IntWalk.i64_quo _ _ (by omega)]; omega

theorem Own.up {h0 h h' : Hp} {v : AV} {len el sz : Nat} {xs : List Value} (hs : Sub h h') (ho : Own h0 h v len el sz xs) : Own h0 h' v len el sz xs := by
  obtain ⟨q1, a, c, q2, q3⟩ := ho
  refine ⟨q1, a, c, q2, q3.imp (fun h => h) ?_⟩
  rintro ⟨blk, tail, w1, w2, w3, w4⟩
  exact ⟨blk, tail, w1, w2, hs _ _ w3, w4⟩
theorem sub_set {h : Hp} {b : Nat} {x : Bool × Obj} (hb : h b = none) : Sub h (h.set b x) := sub_set_of_none (fun _ _ h => h) hb

/-- A tag is put at the end of a row of one's own. -/
theorem appTag {h0 h : Hp} {pd : List AV} {K : AV → Hp → Prop} {ρ : Operand → Value} {o : Oper} {c : Call} {x y : Operand} (ho : o.op = .call c) (hc : c.callee = .builtin .append)
    (hargs : c.args = #[x, y]) (hts : c.argTypes = #[55, 55]) {a : Option Addr} {cap : Nat} {pre : List (List Int)} {t : List Int} {blk len : Nat} (hlen : len = pre.length) (hx : ρ x = .slice a len cap) (hy : ρ y = .slice (some ⟨blk, 0 + 0, none⟩) 1 1) (hb : h blk = none)
    (hs : Sub h0 h) (hown : Own h0 h (.sl a len cap) pre.length 70 16 (tagsV pre)) (ht : t.length = 16) (hn : pre.length ≤ 2 ^ 21)
    (hK : ∀ a' c' h', Own h0 h' (.sl a' (len + 1) c') (pre ++ [t]).length 70 16 (tagsV (pre ++ [t])) → Sub h0 h' → KeepH pd (h.set blk (true, .cells (cellsL id [AV.run .u8 16 t]).toArray 70 (0, 0))) h' ∧ K (.sl a' (len + 1) c') h') :
    OpX Tryz.prog (execOp ρ o) (h.set blk (true, .cells (cellsL id [AV.run .u8 16 t]).toArray 70 (0, 0))) pd K := by
  subst hlen
  have hss := sub_set (x := (true, Obj.cells (cellsL id [AV.run .u8 16 t]).toArray 70 (0, 0))) hb
  have hcl : cellsL id [AV.run .u8 16 t] = ints .u8 t := by simp [cellsL]
  refine OpX.appendOwn tab_ok ho hc hargs hts rfl rfl rfl (h0 := h0) (v := .sl a pre.length cap) (len := pre.length) (n := 1) (xc := 1) (xa := some ⟨blk, 0 + 0, none⟩) (old := tagsV pre) (xs := ints .u8 t) hx hy (fun c x hc => hss c x (hs c x hc)) (hown.up hss) (by simp [ints, ht]) ?_ ?_ (by omega) (by decide) ?_
  · refine .inr ⟨_, rfl, cellsAt_of_block (Hp.set_same _ _ _) fun i v hi => ?_⟩
    rw [hcl]; simpa using hi
  · intro w hw
    obtain ⟨z, _, rfl⟩ := List.mem_map.1 hw
    rfl
  · intro v' h' o' s' _
    obtain ⟨a', c', rfl⟩ : ∃ a c, v' = .sl a (pre.length + 1) c := ⟨_, _, o'.2.choose_spec.choose_spec.1⟩
    refine hK a' c' h' ?_ s'
    rw [tagsV_append, tagsV_one, List.length_append, List.length_singleton]
    exact o'

def SortedC (m : Bool) (n : Nat) : Prop := ∀ (ta : Option Addr) (tc : Nat) (ts : List (List Int)) (h : Hp) (len : Nat), len = ts.length → ts.length ≤ n → ts.length ≤ 2 ^ 20 → ts.length ≤ tc → (∀ t ∈ ts, t.length = 16) → SlAt h ta (tagsV ts) →
  CallsV Tryz.prog m 26 [.sl ta len tc] h (fun r h' => Sub h h' ∧ Own h h' r (sortedF ts).length 70 16 (tagsV (sortedF ts)))

theorem sorted26 (m : Bool) : ∀ n, SortedC m n := by
  intro n
  induction n using Nat.strongRecOn with
  | ind n IH =>
  intro ta tc ts h _ rfl hn hbig hcap hl hs
  refine fnc Tryz.func26 ⟨rfl, by simp [wfL, AV.wf]⟩ rfl ?_
  conv => whnf
  refine br (fun h1 => ?_) (fun h1 => ?_)
  · have h1 : ts.length < 2 := by have := of_decide_eq_true h1; omega
    conv => whnf
    refine OpX.makeOwn tab_ok rfl rfl rfl (k1 := .i64) (k2 := .i64) (l := 0) (c := 1) (h0 := h) rfl rfl (fun _ _ h => h) (by decide) (by decide) (by decide) ?_
    intro v1 h1' o1 s1 f1
    refine ⟨trivial, ?_⟩
    obtain ⟨a1, c1, rfl⟩ : ∃ a c, v1 = .sl a 0 c := ⟨_, _, o1.2.choose_spec.choose_spec.1⟩
    conv => whnf
    refine OpX.appendOwn tab_ok rfl rfl rfl rfl rfl rfl rfl (h0 := h) (v := .sl a1 0 c1) (len := 0) (n := ts.length) (xc := tc) (xa := ta) (old := []) (xs := tagsV ts) rfl rfl s1 o1 (tagsV_len hl) (hs.up s1) (tagsV_scalar ts) (by omega) (by decide) ?_
    intro v2 h2' o2 s2 f2
    refine ⟨trivial, ?_⟩
    obtain ⟨a2, c2, rfl⟩ : ∃ a c, v2 = .sl a (0 + ts.length) c := ⟨_, _, o2.2.choose_spec.choose_spec.1⟩
    conv => whnf
    refine ⟨s2, ?_⟩
    rw [sortedF, if_pos h1]
    simpa using o2
  · have h1 : 2 ≤ ts.length := by have := of_decide_eq_false h1; omega
    have hq := quo2 ts.length (by omega)
    conv => whnf
    refine ⟨by decide, ?_⟩
    rw [hq]
    conv => whnf
    refine ⟨⟨by omega, by omega⟩, ?_⟩
    conv => whnf
    have hlt : (ts.take (ts.length / 2)).length = ts.length / 2 := by rw [List.length_take]; omega
    have hld : (ts.drop (ts.length / 2)).length = ts.length - ts.length / 2 := by rw [List.length_drop]
    refine CallE.of (f := 26) (IH (ts.length / 2) (by omega) ta tc (ts.take (ts.length / 2)) h _ (by rw [hlt]; omega) (by omega) (by omega) (by omega) (fun t ht => hl t (List.mem_of_mem_take ht)) hs.take) ?_
    intro va ha _ _ ⟨sa, oa⟩
    refine ⟨trivial, ?_⟩
    obtain ⟨aa, ca, rfl⟩ : ∃ a c, va = .sl a (sortedF (ts.take (ts.length / 2))).length c := ⟨_, _, oa.2.choose_spec.choose_spec.1⟩
    conv => whnf
    refine ⟨by decide, ?_⟩
    rw [hq]
    conv => whnf
    refine ⟨⟨by omega, by omega⟩, ?_⟩
    conv => whnf
    have hbq : (bif Nat.beq tc ((ts.length / 2 : Nat) : Int).toNat then ta else ta.map (·.add (((ts.length / 2 : Nat) : Int).toNat * 16))) = ta.map (·.add (ts.length / 2 * 16)) := by
      have : Nat.beq tc ((ts.length / 2 : Nat) : Int).toNat = false := by
        cases hb : Nat.beq tc ((ts.length / 2 : Nat) : Int).toNat with
        | false => rfl
        | true => have := Nat.eq_of_beq_eq_true hb; omega
      rw [this]; rfl
    refine CallE.of (f := 26) (IH (ts.length - ts.length / 2) (by omega) _ _ (ts.drop (ts.length / 2)) ha _ (by rw [hld]; omega) (by omega) (by omega) (by omega) (fun t ht => hl t (List.mem_of_mem_drop ht)) (by rw [hbq]; exact (hs.up sa).drop (by omega) hl)) ?_
    intro vb hb' _ _ ⟨sb, ob⟩
    refine ⟨trivial, ?_⟩
    obtain ⟨ab, cb, rfl⟩ : ∃ a c, vb = .sl a (sortedF (ts.drop (ts.length / 2))).length c := ⟨_, _, ob.2.choose_spec.choose_spec.1⟩
    conv => whnf
    refine OpX.makeOwn tab_ok rfl rfl rfl (k1 := .i64) (k2 := .i64) (l := 0) (c := ts.length) (h0 := hb') rfl rfl (fun _ _ h => h) (by omega) (by omega) (by decide) ?_
    intro vo ho oo so fo
    refine ⟨trivial, ?_⟩
    obtain ⟨ao, co, rfl⟩ : ∃ a c, vo = .sl a 0 c := ⟨_, _, oo.2.choose_spec.choose_spec.1⟩
    obtain ⟨lA, mA⟩ := sortedF_len _ (ts.take (ts.length / 2)) (Nat.le_refl _)
    obtain ⟨lB, mB⟩ := sortedF_len _ (ts.drop (ts.length / 2)) (Nat.le_refl _)
    have hsort : sortedF ts = mergeF (sortedF (ts.take (ts.length / 2))) (sortedF (ts.drop (ts.length / 2))) := by
      conv => lhs; rw [sortedF, if_neg (by omega)]
    have tA : ∀ t ∈ sortedF (ts.take (ts.length / 2)), t.length = 16 := fun t ht => hl t (List.mem_of_mem_take (mA t ht))
    have tB : ∀ t ∈ sortedF (ts.drop (ts.length / 2)), t.length = 16 := fun t ht => hl t (List.mem_of_mem_drop (mB t ht))
    rw [hlt] at lA
    rw [hld] at lB
    generalize hA : sortedF (ts.take (ts.length / 2)) = A at *
    generalize hB : sortedF (ts.drop (ts.length / 2)) = B at *
    conv => whnf
    refine WkE.loop (ι := Nat × Nat × Option Addr × Nat × Nat × Hp) (fun s => [(7, .int .i64 s.1), (8, .int .i64 s.2.1), (6, .sl s.2.2.1 s.2.2.2.1 s.2.2.2.2.1), (4, .sl aa A.length ca), (5, .sl ab B.length cb)]) 0 (fun _ => []) (fun s => s.2.2.2.2.2)
      (fun s => s.1 ≤ A.length ∧ s.2.1 ≤ B.length ∧ Sub hb' s.2.2.2.2.2 ∧ ∃ pre, Own hb' s.2.2.2.2.2 (.sl s.2.2.1 s.2.2.2.1 s.2.2.2.2.1) pre.length 70 16 (tagsV pre) ∧ s.2.2.2.1 = pre.length ∧ pre.length ≤ s.1 + s.2.1 ∧ pre ++ mergeF (A.drop s.1) (B.drop s.2.1) = mergeF A B)
      (fun s => (A.length - s.1) + (B.length - s.2.1)) (0, 0, ao, 0, co, ho) ⟨by simp, by simp, so, [], oo, rfl, by simp, by simp⟩ rfl
      (by exact ⟨rfl, rfl, rfl, rfl, rfl, trivial⟩) trivial rfl rfl ?_
    rintro X ⟨i, j, oa', ol', oc', hh⟩ ⟨hi, hj, hsub, pre, hown, hol, hpl, hmer⟩ ih
    simp only at hi hj hsub hown hol hpl hmer ih ⊢
    subst hol
    have go : ∀ (x : List Int), scalar (.int .u8 0) = true → True := fun _ _ => trivial
    by_cases hiA : i < A.length
    · obtain ⟨x, hx⟩ : ∃ x, A[i]? = some x := ⟨_, List.getElem?_eq_getElem hiA⟩
      have dA : A.drop i = x :: A.drop (i + 1) := by rw [List.drop_eq_getElem_cons hiA, (List.getElem?_eq_some_iff.1 hx).2]
      have hx16 : x.length = 16 := tA x (List.mem_of_getElem? hx)
      obtain ⟨ada, ea, cxa⟩ := SlAt.part (k := 16) (((oa.slAt rfl).up sb).up hsub) (fun t ht => by simp [ints, tA t ht]) hx (by decide)
      subst ea
      by_cases hjB : j < B.length
      · obtain ⟨y, hy⟩ : ∃ y, B[j]? = some y := ⟨_, List.getElem?_eq_getElem hjB⟩
        have dB : B.drop j = y :: B.drop (j + 1) := by rw [List.drop_eq_getElem_cons hjB, (List.getElem?_eq_some_iff.1 hy).2]
        have hy16 : y.length = 16 := tB y (List.mem_of_getElem? hy)
        obtain ⟨adb, eb, cyb⟩ := SlAt.part (k := 16) ((ob.slAt rfl).up hsub) (fun t ht => by simp [ints, tB t ht]) hy (by decide)
        subst eb
        rw [dA, dB, mergeF_both] at hmer
        conv => whnf
        refine br (fun _ => ?_) (fun q => absurd (of_decide_eq_false q) (by omega))
        conv => whnf
        refine ⟨⟨[(0, .q), (1, .q), (2, .q), (3, .q), (4, .q), (5, .q), (6, .q), (7, .q), (8, .q), (9, .q), (10, .q), (11, .q), (12, .q), (13, .q), (14, .q), (15, .q), (16, .q), (17, .q), (18, .g), (19, .q), (20, .q), (21, .q)], [0, 0, 2, 7, 15, 31, 31, 95, 255, 511, 1023, 1023, 4095, 8191, 1023, 1023, 50175, 115711, 262143, 524287, 1048575, 2097151], by decide +kernel, ?_⟩⟩
        conv => whnf
        refine br (fun q => absurd (of_decide_eq_true q) (by omega)) (fun _ => ?_)
        conv => whnf
        refine br (fun _ => ?_) (fun q => absurd (of_decide_eq_false q) (by omega))
        conv => whnf
        refine ⟨⟨by omega, by omega⟩, ?_⟩
        conv => whnf
        refine LdE.run y hy16 (by exact cyb) ?_
        conv => whnf
        refine ⟨⟨by omega, by omega⟩, ?_⟩
        conv => whnf
        refine LdE.run x hx16 (by exact cxa) ?_
        conv => whnf
        refine (less25 m y x hh hy16 hx16).B (fun hls => ?_) (fun hls => ?_)
        · rw [if_pos hls] at hmer
          conv => whnf
          refine ⟨⟨by omega, by omega⟩, ?_⟩
          conv => whnf
          refine LdE.run y hy16 (by exact cyb) ?_
          conv => whnf
          refine ⟨rfl, ?_⟩
          conv => whnf
          intro blk hblk
          conv => whnf
          refine appTag (h0 := hb') (pre := pre) (t := y) rfl rfl rfl rfl rfl rfl rfl hblk hsub hown hy16 (by omega) ?_
          intro a2 c2 h2 o2 s2
          refine ⟨trivial, ?_⟩
          conv => whnf
          rw [show IntKind.i64.wrap ((j : Int) + 1) = ((j + 1 : Nat) : Int) from by rw [IntWalk.i64_in _ (by omega)]; omega]
          have := ih (i, j + 1, a2, pre.length + 1, c2, h2) ⟨by simp only; omega, by simp only; omega, s2, pre ++ [y], o2, by simp, by simp only [List.length_append, List.length_singleton]; omega, by
            show (pre ++ [y]) ++ mergeF (A.drop (i)) (B.drop (j + 1)) = _
            rw [← hmer, dA, List.append_assoc]; rfl⟩ (by simp only; omega)
          refine WkE.next _ 0 _ ?_ ?_ ?_ ?_ this
          · exact ⟨rfl, rfl, rfl, rfl, rfl, trivial⟩
          · exact trivial
          · rfl
          · rfl
        · rw [if_neg (by rw [hls]; simp)] at hmer
          conv => whnf
          refine ⟨⟨[(0, .q), (1, .q), (2, .q), (3, .q), (4, .q), (5, .q), (6, .q), (7, .q), (8, .q), (9, .q), (10, .q), (11, .q), (12, .q), (13, .q), (14, .q)], [0, 0, 2, 7, 15, 31, 31, 127, 255, 31, 31, 1567, 3615, 8191, 16383], by decide +kernel, ?_⟩⟩
          conv => whnf
          refine br (fun _ => ?_) (fun q => absurd (of_decide_eq_false q) (by omega))
          conv => whnf
          refine ⟨⟨by omega, by omega⟩, ?_⟩
          conv => whnf
          refine LdE.run x hx16 (by exact cxa) ?_
          conv => whnf
          refine ⟨⟨by omega, by omega⟩, ?_⟩
          conv => whnf
          refine LdE.run y hy16 (by exact cyb) ?_
          conv => whnf
          by_cases hxy : x = y
          · rw [if_pos hxy] at hmer
            refine ⟨.bool true, rfl, trivial, fun h => ?_, ?_⟩
            · exact eqArr' tab_ok (t := 70) (k := .u8) (m := 16) (xs := x) (ys := y) (decide_eq_true hxy) rfl rfl rfl (by decide +kernel) rfl rfl hx16 hy16 h
            conv => whnf
            rw [show IntKind.i64.wrap ((j : Int) + 1) = ((j + 1 : Nat) : Int) from by rw [IntWalk.i64_in _ (by omega)]; omega]
            refine ⟨⟨by omega, by omega⟩, ?_⟩
            conv => whnf
            refine LdE.run x hx16 (by exact cxa) ?_
            conv => whnf
            refine ⟨rfl, ?_⟩
            conv => whnf
            intro blk hblk
            conv => whnf
            refine appTag (h0 := hb') (pre := pre) (t := x) rfl rfl rfl rfl rfl rfl rfl hblk hsub hown hx16 (by omega) ?_
            intro a2 c2 h2 o2 s2
            refine ⟨trivial, ?_⟩
            conv => whnf
            rw [show IntKind.i64.wrap ((i : Int) + 1) = ((i + 1 : Nat) : Int) from by rw [IntWalk.i64_in _ (by omega)]; omega]
            have := ih (i + 1, j + 1, a2, pre.length + 1, c2, h2) ⟨by simp only; omega, by simp only; omega, s2, pre ++ [x], o2, by simp, by simp only [List.length_append, List.length_singleton]; omega, by
              show (pre ++ [x]) ++ mergeF (A.drop (i + 1)) (B.drop (j + 1)) = _
              rw [← hmer, List.append_assoc]; rfl⟩ (by simp only; omega)
            refine WkE.next _ 0 _ ?_ ?_ ?_ ?_ this
            · exact ⟨rfl, rfl, rfl, rfl, rfl, trivial⟩
            · exact trivial
            · rfl
            · rfl
          · rw [if_neg hxy] at hmer
            refine ⟨.bool false, rfl, trivial, fun h => ?_, ?_⟩
            · exact eqArr' tab_ok (t := 70) (k := .u8) (m := 16) (xs := x) (ys := y) (decide_eq_false hxy) rfl rfl rfl (by decide +kernel) rfl rfl hx16 hy16 h
            conv => whnf
            refine ⟨⟨by omega, by omega⟩, ?_⟩
            conv => whnf
            refine LdE.run x hx16 (by exact cxa) ?_
            conv => whnf
            refine ⟨rfl, ?_⟩
            conv => whnf
            intro blk hblk
            conv => whnf
            refine appTag (h0 := hb') (pre := pre) (t := x) rfl rfl rfl rfl rfl rfl rfl hblk hsub hown hx16 (by omega) ?_
            intro a2 c2 h2 o2 s2
            refine ⟨trivial, ?_⟩
            conv => whnf
            rw [show IntKind.i64.wrap ((i : Int) + 1) = ((i + 1 : Nat) : Int) from by rw [IntWalk.i64_in _ (by omega)]; omega]
            have := ih (i + 1, j, a2, pre.length + 1, c2, h2) ⟨by simp only; omega, by simp only; omega, s2, pre ++ [x], o2, by simp, by simp only [List.length_append, List.length_singleton]; omega, by
              show (pre ++ [x]) ++ mergeF (A.drop (i + 1)) (B.drop (j)) = _
              rw [← hmer, dB, List.append_assoc]; rfl⟩ (by simp only; omega)
            refine WkE.next _ 0 _ ?_ ?_ ?_ ?_ this
            · exact ⟨rfl, rfl, rfl, rfl, rfl, trivial⟩
            · exact trivial
            · rfl
            · rfl
      · conv => whnf
        refine br (fun q => ?_) (fun q => absurd (of_decide_eq_false q) (by omega))
        conv => whnf
        refine ⟨⟨[(0, .q), (1, .q), (2, .q), (3, .q), (4, .q), (5, .q), (6, .q), (7, .q), (8, .q), (9, .q), (10, .q), (11, .q), (12, .q), (13, .q), (14, .q), (15, .q), (16, .q), (17, .q), (18, .g), (19, .q), (20, .q), (21, .q)], [0, 0, 2, 7, 15, 31, 31, 95, 255, 511, 1023, 1023, 4095, 8191, 1023, 1023, 50175, 115711, 262143, 524287, 1048575, 2097151], by decide +kernel, ?_⟩⟩
        conv => whnf
        refine br (fun _ => ?_) (fun q => absurd (of_decide_eq_false q) (by omega))
        conv => whnf
        refine ⟨⟨[(0, .q), (1, .q), (2, .q), (3, .q), (4, .q), (5, .q), (6, .q), (7, .q), (8, .q), (9, .q), (10, .q), (11, .q), (12, .q), (13, .q), (14, .q)], [0, 0, 2, 7, 15, 31, 31, 127, 255, 31, 31, 1567, 3615, 8191, 16383], by decide +kernel, ?_⟩⟩
        conv => whnf
        refine br (fun q => absurd (of_decide_eq_true q) (by omega)) (fun _ => ?_)
        conv => whnf
        refine ⟨⟨by omega, by omega⟩, ?_⟩
        conv => whnf
        refine LdE.run x hx16 (by exact cxa) ?_
        conv => whnf
        refine ⟨rfl, ?_⟩
        conv => whnf
        intro blk hblk
        conv => whnf
        refine appTag (h0 := hb') (pre := pre) (t := x) rfl rfl rfl rfl rfl rfl rfl hblk hsub hown hx16 (by omega) ?_
        intro a2 c2 h2 o2 s2
        refine ⟨trivial, ?_⟩
        conv => whnf
        rw [show IntKind.i64.wrap ((i : Int) + 1) = ((i + 1 : Nat) : Int) from by rw [IntWalk.i64_in _ (by omega)]; omega]
        have := ih (i + 1, j, a2, pre.length + 1, c2, h2) ⟨by simp only; omega, hj, s2, pre ++ [x], o2, by simp, by simp only [List.length_append, List.length_singleton]; omega, by
          have dB : B.drop j = [] := List.drop_of_length_le (by omega)
          show (pre ++ [x]) ++ mergeF (A.drop (i + 1)) (B.drop j) = _
          rw [← hmer, dA, dB, mergeF_left, List.append_assoc]; rfl⟩ (by simp only; omega)
        refine WkE.next _ 0 _ ?_ ?_ ?_ ?_ this
        · exact ⟨rfl, rfl, rfl, rfl, rfl, trivial⟩
        · exact trivial
        · rfl
        · rfl
    · by_cases hjB : j < B.length
      · obtain ⟨y, hy⟩ : ∃ y, B[j]? = some y := ⟨_, List.getElem?_eq_getElem hjB⟩
        have dB : B.drop j = y :: B.drop (j + 1) := by rw [List.drop_eq_getElem_cons hjB, (List.getElem?_eq_some_iff.1 hy).2]
        have hy16 : y.length = 16 := tB y (List.mem_of_getElem? hy)
        obtain ⟨adb, eb, cyb⟩ := SlAt.part (k := 16) ((ob.slAt rfl).up hsub) (fun t ht => by simp [ints, tB t ht]) hy (by decide)
        subst eb
        conv => whnf
        refine br (fun q => absurd (of_decide_eq_true q) (by omega)) (fun _ => ?_)
        conv => whnf
        refine br (fun _ => ?_) (fun q => absurd (of_decide_eq_false q) (by omega))
        conv => whnf
        refine ⟨⟨[(0, .q), (1, .q), (2, .q), (3, .q), (4, .q), (5, .q), (6, .q), (7, .q), (8, .q), (9, .q), (10, .q), (11, .q), (12, .q), (13, .q), (14, .q), (15, .q), (16, .q), (17, .q), (18, .g), (19, .q), (20, .q), (21, .q)], [0, 0, 2, 7, 15, 31, 31, 95, 255, 511, 1023, 1023, 4095, 8191, 1023, 1023, 50175, 115711, 262143, 524287, 1048575, 2097151], by decide +kernel, ?_⟩⟩
        conv => whnf
        refine br (fun q => absurd (of_decide_eq_true q) (by omega)) (fun _ => ?_)
        conv => whnf
        refine br (fun q => absurd (of_decide_eq_true q) (by omega)) (fun _ => ?_)
        conv => whnf
        refine ⟨⟨by omega, by omega⟩, ?_⟩
        conv => whnf
        refine LdE.run y hy16 (by exact cyb) ?_
        conv => whnf
        refine ⟨rfl, ?_⟩
        conv => whnf
        intro blk hblk
        conv => whnf
        refine appTag (h0 := hb') (pre := pre) (t := y) rfl rfl rfl rfl rfl rfl rfl hblk hsub hown hy16 (by omega) ?_
        intro a2 c2 h2 o2 s2
        refine ⟨trivial, ?_⟩
        conv => whnf
        rw [show IntKind.i64.wrap ((j : Int) + 1) = ((j + 1 : Nat) : Int) from by rw [IntWalk.i64_in _ (by omega)]; omega]
        have := ih (i, j + 1, a2, pre.length + 1, c2, h2) ⟨by simp only; omega, by simp only; omega, s2, pre ++ [y], o2, by simp, by simp only [List.length_append, List.length_singleton]; omega, by
          have dA : A.drop i = [] := List.drop_of_length_le (by omega)
          show (pre ++ [y]) ++ mergeF (A.drop i) (B.drop (j + 1)) = _
          rw [← hmer, dA, dB, mergeF_right, List.append_assoc]; rfl⟩ (by simp only; omega)
        refine WkE.next _ 0 _ ?_ ?_ ?_ ?_ this
        · exact ⟨rfl, rfl, rfl, rfl, rfl, trivial⟩
        · exact trivial
        · rfl
        · rfl
      · conv => whnf
        refine br (fun q => absurd (of_decide_eq_true q) (by omega)) (fun _ => ?_)
        conv => whnf
        refine br (fun q => absurd (of_decide_eq_true q) (by omega)) (fun _ => ?_)
        conv => whnf
        refine ⟨?_, ?_⟩
        · exact fun c y hc => hsub c y (sb c y (sa c y hc))
        · rw [hsort, ← hmer, List.drop_of_length_le (by omega), List.drop_of_length_le (by omega), mergeF_nil, List.append_nil]
          obtain ⟨q1, q2, q3, q4, q5⟩ := hown
          refine ⟨q1, q2, q3, q4, q5.imp id ?_⟩
          rintro ⟨blk, tail, w1, w2, w3⟩
          exact ⟨blk, tail, w1, none_of_sub (fun c y hc => sb c y (sa c y hc)) w2, w3⟩
end Go.Proofs.YtfiephhdkloaeaaGreat.Ch
end

section
open Go Go.Conc Go.Proofs Go.Proofs.YtfiephhdkloaeaaGreat.Ch
set_option maxRecDepth 100000
set_option maxHeartbeats 2000000
namespace Go.Proofs.YtfiephhdkloaeaaGreat.Ch
def allF (es : List Ep) : List (List Int) := es.flatMap (·.tags)
theorem allF_len (es : List Ep) : (allF es).length = tot es := by
  unfold allF tot
  induction es with
  | nil => rfl
  | cons e es ih => simp [List.flatMap_cons, ih]
theorem allF_take {es : List Ep} {k : Nat} {e : Ep} (hi : es[k]? = some e) : allF (es.take (k + 1)) = allF (es.take k) ++ e.tags := by
  unfold allF
  rw [List.take_add_one, hi]
  simp [List.flatMap_append]
theorem allF_16 {h : Hp} {ea : Option Addr} {es : List Ep} (hE : EpsAt h ea es) : ∀ t ∈ allF es, t.length = 16 := by
  intro t ht
  obtain ⟨e, he, h1⟩ := List.mem_flatMap.1 ht
  exact (hE.2 e he).2 t h1
theorem EpsAt.up {h h' : Hp} {ea : Option Addr} {es : List Ep} (hs : Sub h h') (hE : EpsAt h ea es) : EpsAt h' ea es :=
  ⟨hE.1.up hs, fun e he => ⟨(hE.2 e he).1.up hs, (hE.2 e he).2⟩⟩

theorem all27 (m : Bool) (w : Win) (h : Hp) (hE : EpsAt h w.ea w.es) (ht : tot w.es ≤ 2 ^ 20) (hl : w.es.length ≤ 2 ^ 20) :
    CallsV Tryz.prog m 27 [winA w] h (fun r h' => Sub h h' ∧ Own h h' r (allF w.es).length 70 16 (tagsV (allF w.es))) := by
  refine fnc Tryz.func27 ⟨rfl, by simp [wfL, AV.wf, winA]⟩ rfl ?_
  unfold winA
  conv => whnf
  refine WkE.loop (ι := Nat × Option Addr × Nat × Nat × Hp) (fun s => [(4, .int .i64 s.1), (3, .sl s.2.1 s.2.2.1 s.2.2.2.1), (1, .bptr 0 0 0)]) 1 (fun _ => [(0, 27, [.int .i64 w.newest, .sl w.ea w.es.length w.ec])]) (fun s => s.2.2.2.2)
    (fun s => s.1 ≤ w.es.length ∧ Sub h s.2.2.2.2 ∧ s.2.2.1 = (allF (w.es.take s.1)).length ∧ Own h s.2.2.2.2 (.sl s.2.1 s.2.2.1 s.2.2.2.1) s.2.2.1 70 16 (tagsV (allF (w.es.take s.1)))) (fun s => w.es.length - s.1) (0, none, 0, 0, h)
    ⟨by simp, fun _ _ h => h, rfl, Own.nil⟩ rfl (by exact ⟨rfl, rfl, rfl, trivial⟩) (by exact ⟨rfl, trivial⟩) rfl rfl ?_
  rintro X ⟨k, oa, ol, oc, hh⟩ ⟨hk, hsub, hol, hown⟩ ih
  simp only at hk hsub hol hown ih ⊢
  conv => whnf
  by_cases h1 : k < w.es.length
  · refine br (fun _ => ?_) (fun q => absurd (of_decide_eq_false q) (by omega))
    obtain ⟨e, he⟩ : ∃ e, w.es[k]? = some e := ⟨_, List.getElem?_eq_getElem h1⟩
    obtain ⟨ad, hea, hc⟩ := (hE.up hsub).at he
    have heOK := hE.2 e (List.mem_of_getElem? he)
    rw [hea] at ih ⊢
    conv => whnf
    refine ⟨⟨by omega, by omega⟩, ?_⟩
    conv => whnf
    refine LdE.one (.sl e.ta e.tags.length e.tc) rfl rfl trivial (EpOK.sl hc) ?_
    conv => whnf
    have hle := tot_take_le w.es (k + 1)
    have htk := tot_take he
    have hlen : (allF (w.es.take k)).length = tot (w.es.take k) := allF_len _
    refine OpX.appendOwn tab_ok rfl rfl rfl rfl rfl rfl rfl (h0 := h) (v := .sl oa ol oc) (len := ol) (n := e.tags.length) (xc := e.tc) (xa := e.ta) (old := tagsV (allF (w.es.take k))) (xs := tagsV e.tags) rfl rfl hsub hown (tagsV_len heOK.2) (heOK.1.up hsub) (tagsV_scalar _) (by omega) (by decide) ?_
    intro v2 h2 o2 s2 _
    refine ⟨trivial, ?_⟩
    obtain ⟨a2, c2, rfl⟩ : ∃ a c, v2 = .sl a (ol + e.tags.length) c := ⟨_, _, o2.2.choose_spec.choose_spec.1⟩
    conv => whnf
    rw [show IntKind.i64.wrap ((k : Int) + 1) = ((k + 1 : Nat) : Int) from by rw [IntWalk.i64_in _ (by omega)]; omega]
    have := ih (k + 1, a2, ol + e.tags.length, c2, h2) ⟨by simp only; omega, s2, by simp only; rw [allF_take he, List.length_append, ← hol], by simp only; rw [allF_take he, tagsV_append]; exact o2⟩ (by simp only; omega)
    refine WkE.next _ 1 _ ?_ ?_ ?_ ?_ this
    · exact ⟨rfl, rfl, rfl, trivial⟩
    · exact ⟨rfl, trivial⟩
    · rfl
    · rfl
  · refine br (fun q => absurd (of_decide_eq_true q) (by omega)) (fun _ => ?_)
    have : k = w.es.length := by omega
    subst this
    conv => whnf
    rw [List.take_length] at hown hol
    refine ⟨hsub, ?_⟩
    rw [hol] at hown
    rw [← hol] at hown ⊢
    exact hown
end Go.Proofs.YtfiephhdkloaeaaGreat.Ch
end
