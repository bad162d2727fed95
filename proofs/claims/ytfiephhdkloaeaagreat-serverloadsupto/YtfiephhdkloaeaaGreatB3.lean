/- A part of the proof. -/
import Derived.Test.YtfiephhdkloaeaaGreatB2
import Derived.Test.YtfiephhdkloaeaaGreatA4
import Derived.Lib.Bytealg
import Derived.KernelRfl
section
open Go Go.Conc Go.Proofs Go.Proofs.YtfiephhdkloaeaaGreat.Ch
set_option maxRecDepth 100000
set_option maxHeartbeats 2000000
namespace Go.Proofs.YtfiephhdkloaeaaGreat.Ch
theorem tagsV_nil {ts : List (List Int)} (hl : ∀ t ∈ ts, t.length = 16) (h : tagsV ts = []) : ts = [] := by
  have := tagsV_len hl
  rw [h] at this
  exact List.eq_nil_of_length_eq_zero (by simp at this; omega)

/-- A copy of a row of tags, in memory of its own. -/
theorem clone22 (m : Bool) (ta : Option Addr) (tc len : Nat) (ts : List (List Int)) (h : Hp) (hlen : len = ts.length) (hb : ts.length ≤ 2 ^ 20) (hl : ∀ t ∈ ts, t.length = 16) (hs : SlAt h ta (tagsV ts)) :
    CallsV Tryz.prog m 22 [.sl ta len tc] h (fun r h' => Sub h h' ∧ Own h h' r ts.length 70 16 (tagsV ts)) := by
  subst hlen
  refine fnc Tryz.func22 ⟨rfl, by simp [wfL, AV.wf]⟩ rfl ?_
  cases ta with
  | none =>
    have hnil : ts = [] := by
      rcases hs with h1 | ⟨_, h1, _⟩
      · exact tagsV_nil hl h1
      · cases h1
    subst hnil
    conv => whnf
    exact ⟨fun _ _ h => h, Own.nil⟩
  | some ad =>
    conv => whnf
    intro blk hblk
    conv => whnf
    have hss := sub_set (h := h) (x := (true, Obj.cells (cellsL id []).toArray 70 (0, 0))) hblk
    refine OpX.appendOwn tab_ok rfl rfl rfl rfl rfl rfl rfl (h0 := h) (v := .sl (some ⟨blk, 0 + 0, none⟩) 0 0) (len := 0) (n := ts.length) (xc := tc) (xa := some ad) (old := []) (xs := tagsV ts) rfl rfl hss
      ⟨rfl, _, 0, rfl, .inr ⟨blk, [], rfl, hblk, Hp.set_same _ _ _, rfl, Nat.le_refl _⟩⟩ (tagsV_len hl) (hs.up hss) (tagsV_scalar ts) (by omega) (by decide) ?_
    intro v2 h2 o2 s2 _
    refine ⟨True.intro, ?_⟩
    obtain ⟨a2, c2, rfl⟩ : ∃ a c, v2 = .sl a (0 + ts.length) c := ⟨_, _, o2.2.choose_spec.choose_spec.1⟩
    conv => whnf
    refine ⟨s2, ?_⟩
    simpa using o2

/-- A copy of bytes, in memory of its own. -/
theorem clone14 (m : Bool) (ta : Option Addr) (tc len : Nat) (xs : List Int) (h : Hp) (hlen : len = xs.length) (hb : xs.length ≤ 2 ^ 20) (hs : SlAt h ta (ints .u8 xs)) :
    CallsV Tryz.prog m 14 [.sl ta len tc] h (fun r h' => Sub h h' ∧ Own h h' r xs.length 5 1 (ints .u8 xs)) := by
  subst hlen
  refine fnc Tryz.func14 ⟨rfl, by simp [wfL, AV.wf]⟩ rfl ?_
  cases ta with
  | none =>
    have hnil : xs = [] := by
      rcases hs with h1 | ⟨_, h1, _⟩
      · simpa [ints] using h1
      · cases h1
    subst hnil
    conv => whnf
    exact ⟨fun _ _ h => h, Own.nil⟩
  | some ad =>
    conv => whnf
    intro blk hblk
    conv => whnf
    have hss := sub_set (h := h) (x := (true, Obj.cells (cellsL id []).toArray 5 (0, 0))) hblk
    refine OpX.appendOwn tab_ok rfl rfl rfl rfl rfl rfl rfl (h0 := h) (v := .sl (some ⟨blk, 0 + 0, none⟩) 0 0) (len := 0) (n := xs.length) (xc := tc) (xa := some ad) (old := []) (xs := ints .u8 xs) rfl rfl hss
      ⟨rfl, _, 0, rfl, .inr ⟨blk, [], rfl, hblk, Hp.set_same _ _ _, rfl, Nat.le_refl _⟩⟩ (by simp [ints]) (hs.up hss) (fun w hw => by obtain ⟨z, _, rfl⟩ := List.mem_map.1 hw; rfl) (by omega) (by decide) ?_
    intro v2 h2 o2 s2 _
    refine ⟨True.intro, ?_⟩
    obtain ⟨a2, c2, rfl⟩ : ∃ a c, v2 = .sl a (0 + xs.length) c := ⟨_, _, o2.2.choose_spec.choose_spec.1⟩
    conv => whnf
    refine ⟨s2, ?_⟩
    simpa using o2

theorem epsV_len (es : List Ep) : (es.flatMap epV).length = es.length * 2 := by
  induction es with
  | nil => rfl
  | cons e es ih => rw [List.flatMap_cons, List.length_append, ih, List.length_cons]; simp [epV]; omega
theorem epsV_scalar (es : List Ep) : ∀ w ∈ es.flatMap epV, scalar w = true := by
  intro w hw
  obtain ⟨e, _, h⟩ := List.mem_flatMap.1 hw
  simp only [epV, List.mem_cons, List.not_mem_nil, or_false] at h
  rcases h with rfl | rfl <;> rfl

/-- A copy of a row of epochs, in memory of its own; the tags stay shared. -/
theorem clone21 (m : Bool) (ta : Option Addr) (tc len : Nat) (es : List Ep) (h : Hp) (hlen : len = es.length) (hb : es.length ≤ 2 ^ 20) (hs : SlAt h ta (es.flatMap epV)) :
    CallsV Tryz.prog m 21 [.sl ta len tc] h (fun r h' => Sub h h' ∧ Own h h' r es.length 57 2 (es.flatMap epV)) := by
  subst hlen
  refine fnc Tryz.func21 ⟨rfl, by simp [wfL, AV.wf]⟩ rfl ?_
  cases ta with
  | none =>
    have hnil : es = [] := by
      rcases hs with h1 | ⟨_, h1, _⟩
      · have := epsV_len es
        rw [h1] at this
        exact List.eq_nil_of_length_eq_zero (by simp at this; omega)
      · cases h1
    subst hnil
    conv => whnf
    exact ⟨fun _ _ h => h, Own.nil⟩
  | some ad =>
    conv => whnf
    intro blk hblk
    conv => whnf
    have hss := sub_set (h := h) (x := (true, Obj.cells (cellsL id []).toArray 57 (0, 0))) hblk
    refine OpX.appendOwn tab_ok rfl rfl rfl rfl rfl rfl rfl (h0 := h) (v := .sl (some ⟨blk, 0 + 0, none⟩) 0 0) (len := 0) (n := es.length) (xc := tc) (xa := some ad) (old := []) (xs := es.flatMap epV) rfl rfl hss
      ⟨rfl, _, 0, rfl, .inr ⟨blk, [], rfl, hblk, Hp.set_same _ _ _, rfl, Nat.le_refl _⟩⟩ (epsV_len es) (hs.up hss) (epsV_scalar es) (by omega) (by decide) ?_
    intro v2 h2 o2 s2 _
    refine ⟨True.intro, ?_⟩
    obtain ⟨a2, c2, rfl⟩ : ∃ a c, v2 = .sl a (0 + es.length) c := ⟨_, _, o2.2.choose_spec.choose_spec.1⟩
    conv => whnf
    refine ⟨s2, ?_⟩
    simpa using o2
end Go.Proofs.YtfiephhdkloaeaaGreat.Ch
end

section
open Go Go.Conc Go.Proofs Go.Proofs.YtfiephhdkloaeaaGreat.Ch
set_option maxRecDepth 100000
set_option maxHeartbeats 2000000
namespace Go.Proofs.YtfiephhdkloaeaaGreat.Ch
theorem CellsAt.tail {h : Hp} {ad : Addr} {v : Value} {vs : List Value} (hc : CellsAt h ad (v :: vs)) : CellsAt h (ad.add 1) vs :=
  CellsAt.sub (pre := [v]) (vs := vs) (post := []) (by simpa using hc)
theorem wp_loadBytes {P : Program} {h : Hp} : ∀ (xs : List Int) (ad : Addr) (acc : ByteArray) {Q : ByteArray → Hp → Prop} {E : Halt → Hp → Prop}, CellsAt h ad (ints .u8 xs) →
    (∀ r : ByteArray, r.data.toList = acc.data.toList ++ xs.map (fun b => b.toNat.toUInt8) → Q r h) → wp P (Extern.Bytes.loadBytes ad xs.length acc) h Q E
  | [], ad, acc, Q, E, hc, hq => hq acc (by simp)
  | x :: xs, ad, acc, Q, E, hc, hq => by
    have h0 := hc 0 (.int .u8 x) rfl
    rw [show ad.add 0 = ad from by simp [Addr.add]] at h0
    refine wpB (wp_load h0 ?_)
    refine wp_loadBytes xs (ad.add 1) _ (CellsAt.tail hc) fun r hr => hq r ?_
    rw [hr]
    simp [ByteArray.push]
/-- The row for internal/bytealg.Compare. -/
theorem wp_compare {P : Program} {h : Hp} {a b : Option Addr} {ca cb : Nat} {xs ys : List Int} {Q : Value → Hp → Prop} {E : Halt → Hp → Prop} (hx : SlAt h a (ints .u8 xs)) (hy : SlAt h b (ints .u8 ys))
    (hq : Q (.int .i64 (Lib.compareBytes (xs.map fun b => b.toNat.toUInt8) (ys.map fun b => b.toNat.toUInt8))) h) : wp P (Extern.BytealgCompare.compare #[.slice a xs.length ca, .slice b ys.length cb]) h Q E := by
  have one : ∀ {a : Option Addr} {c : Nat} {xs : List Int} {Q : ByteArray → Hp → Prop} {E : Halt → Hp → Prop}, SlAt h a (ints .u8 xs) → (∀ r : ByteArray, r.data.toList = xs.map (fun b => b.toNat.toUInt8) → Q r h) →
      wp P (Extern.Bytes.bytesOf (.slice a xs.length c)) h Q E := by
    intro a c xs Q E hs hq
    cases a with
    | none =>
      rcases hs with h1 | ⟨_, h1, _⟩
      · have : xs = [] := by simpa [ints] using h1
        subst this
        exact hq _ rfl
      · cases h1
    | some ad =>
      rcases hs with h1 | ⟨ad', h1, h2⟩
      · have : xs = [] := by simpa [ints] using h1
        subst this
        exact hq _ rfl
      · cases h1
        exact wp_loadBytes xs ad _ h2 fun r hr => hq r (by simpa using hr)
  refine wpB (one hx fun r hr => wpB (one hy fun r' hr' => ?_))
  rw [Lib.cmp_eq, hr, hr']
  exact hq
end Go.Proofs.YtfiephhdkloaeaaGreat.Ch
end

section
open Go Go.Conc Go.Proofs Go.Proofs.YtfiephhdkloaeaaGreat.Ch
set_option maxRecDepth 100000
set_option maxHeartbeats 2000000
namespace Go.Proofs.YtfiephhdkloaeaaGreat.Ch
def cmpF (xs ys : List Int) : Int := Lib.compareBytes (xs.map fun b => b.toNat.toUInt8) (ys.map fun b => b.toNat.toUInt8)
theorem ext1 : Extern.findNext Tryz.f35 = none := by kernel_rfl
theorem ext2 : Extern.find Tryz.f35 = some Extern.BytealgCompare.compare := by kernel_rfl
theorem compare34 (m : Bool) (a b : Option Addr) (n1 n2 ca cb : Nat) (xs ys : List Int) (h : Hp) (h1 : n1 = xs.length) (h2 : n2 = ys.length) (hx : SlAt h a (ints .u8 xs)) (hy : SlAt h b (ints .u8 ys)) :
    An m 34 [.sl a n1 ca, .sl b n2 cb] h (.int .i64 (cmpF xs ys)) := by
  subst h1 h2
  refine fnc Tryz.func34 ⟨rfl, by simp [wfL, AV.wf]⟩ rfl ?_
  conv => whnf
  refine OpX.ext rfl rfl rfl Tryz.func35 (by decide +kernel) rfl ext1 ext2 (args := #[.slice a xs.length ca, .slice b ys.length cb]) (by simp [List.map_toArray]; exact ⟨rfl, rfl⟩) ?_
  refine wp_compare hx hy ⟨.int .i64 (cmpF xs ys), rfl, trivial, rfl, True.intro, ?_⟩
  conv => whnf
  exact ⟨rfl, rfl⟩
end Go.Proofs.YtfiephhdkloaeaaGreat.Ch
end

section
open Go Go.Conc Go.Proofs Go.Proofs.YtfiephhdkloaeaaGreat.Ch
set_option maxRecDepth 100000
set_option maxHeartbeats 2000000
namespace Go.Proofs.YtfiephhdkloaeaaGreat.Ch
/-- What a call has made and nobody holds may be forgotten. -/
theorem Ans.of_sub {P : Program} {m : Bool} {f : FuncId} {args : List AV} {h : Hp} {v : AV} (hc : CallsV P m f args h (fun r h' => Sub h h' ∧ r = v)) : Ans P m f args h v :=
  CallsL.mono hc fun _ _ ⟨r, _, q1, q2, q3, q4, q5, q6⟩ => ⟨r, h, fun c x hx => q1 c x (q5 c x hx), q2, q3, q4, q6, rfl⟩

theorem order33 (m : Bool) (xs ys : List Int) (h : Hp) (hx : xs.length = 16) (hy : ys.length = 16) : An m 33 [.agg [.run .u8 16 xs], .agg [.run .u8 16 ys]] h (.int .i64 (cmpF xs ys)) := by
  refine Ans.of_sub (fnc Tryz.func33 ⟨rfl, by simp [wfL, AV.wf, hx, hy]⟩ rfl ?_)
  conv => whnf
  refine ⟨⟨[(0, .q), (1, .q), (2, .g), (3, .q)], [0, 0, 3, 7], by decide +kernel, ?_⟩⟩
  conv => whnf
  intro b1 hb1
  conv => whnf
  intro b2 hb2
  conv => whnf
  have hne : b2 ≠ b1 := fun e => by rw [e, Hp.set_same] at hb2; cases hb2
  have hrun : ∀ zs : List Int, cellsL id [AV.run .u8 16 zs] = ints .u8 zs := fun zs => by simp [cellsL]
  have hn2 : h b2 = none := by rw [Hp.set_ne _ _ hne] at hb2; exact hb2
  refine (compare34 m (some ⟨b1, 0 + 0, none⟩) (some ⟨b2, 0 + 0, none⟩) 16 16 16 16 xs ys _ hx.symm hy.symm ?_ ?_).E ?_
  · refine .inr ⟨_, rfl, cellsAt_of_block (by rw [Hp.set_ne _ _ (Ne.symm hne), Hp.set_same]) fun i v hi => ?_⟩
    show (cellsL id [AV.run .u8 16 xs])[0 + 0 + i]? = some v
    rw [hrun]; simpa using hi
  · refine .inr ⟨_, rfl, cellsAt_of_block (Hp.set_same _ _ _) fun i v hi => ?_⟩
    show (cellsL id [AV.run .u8 16 ys])[0 + 0 + i]? = some v
    rw [hrun]; simpa using hi
  conv => whnf
  exact ⟨fun c x hc => sub_set hb2 c x (sub_set hb1 c x hc), rfl⟩
end Go.Proofs.YtfiephhdkloaeaaGreat.Ch
end

section
open Go Go.Conc Go.Proofs Go.Proofs.YtfiephhdkloaeaaGreat.Ch
set_option maxRecDepth 100000
set_option maxHeartbeats 2000000
namespace Go.Proofs.YtfiephhdkloaeaaGreat.Ch
def nondecr : List (List Int) → Bool
  | a :: b :: r => !decide (cmpF b a < 0) && nondecr (b :: r)
  | _ => true
theorem nondecr_drop : ∀ (k : Nat) (l : List (List Int)), nondecr l = true → nondecr (l.drop k) = true
  | 0, l, h => h
  | k + 1, [], h => h
  | k + 1, [a], h => by cases k <;> rfl
  | k + 1, a :: b :: r, h => by
    simp only [nondecr, Bool.and_eq_true] at h
    exact nondecr_drop k (b :: r) h.2
theorem nondecr_short {l : List (List Int)} (h : l.length ≤ 1) : nondecr l = true := by
  match l, h with
  | [], _ => rfl
  | [_], _ => rfl

theorem isSorted32 (m : Bool) (ta : Option Addr) (tc len : Nat) (ts : List (List Int)) (h : Hp) (hlen : len = ts.length) (hb : ts.length ≤ 2 ^ 40) (hl : ∀ t ∈ ts, t.length = 16) (hs : SlAt h ta (tagsV ts)) :
    An m 32 [.sl ta len tc, .fn (.func 33) [] []] h (.bool (nondecr ts)) := by
  subst hlen
  refine fnc Tryz.func32 ⟨rfl, by simp [wfL, AV.wf]⟩ rfl ?_
  conv => whnf
  rw [show IntKind.i64.wrap ((ts.length : Int) - 1) = (ts.length : Int) - 1 from IntWalk.i64_in _ (by omega)]
  refine WkE.loop (ι := Nat) (fun s => [(5, .int .i64 ((s : Int) - 1)), (0, .sl ta ts.length tc), (1, .fn (.func 33) [] [])]) 0 (fun _ => []) (fun _ => h)
    (fun s => s ≤ ts.length ∧ nondecr (ts.drop (s - 1)) = true) (fun s => s) ts.length ⟨Nat.le_refl _, nondecr_short (by rw [List.length_drop]; omega)⟩ rfl
    (by exact ⟨rfl, rfl, rfl, trivial⟩) trivial rfl rfl ?_
  intro X s ⟨hs1, hnd⟩ ih
  conv => whnf
  by_cases h2 : 2 ≤ s
  · refine br (fun _ => ?_) (fun q => absurd (of_decide_eq_false q) (by omega))
    obtain ⟨x, hx⟩ : ∃ t, ts[s - 1]? = some t := ⟨_, List.getElem?_eq_getElem (by omega)⟩
    obtain ⟨y, hy⟩ : ∃ t, ts[s - 2]? = some t := ⟨_, List.getElem?_eq_getElem (by omega)⟩
    have hk : ∀ t ∈ ts, (ints .u8 t).length = 16 := fun t ht => by simp [ints, hl t ht]
    obtain ⟨ad, ea, c1⟩ := SlAt.part (k := 16) hs hk hx (by decide)
    obtain ⟨ad', ea', c2⟩ := SlAt.part (k := 16) hs hk hy (by decide)
    rw [ea] at ea'; cases ea'
    have l1 := hl x (List.mem_of_getElem? hx)
    have l2 := hl y (List.mem_of_getElem? hy)
    have hd1 : ts.drop (s - 1) = x :: ts.drop s := by
      rw [List.drop_eq_getElem_cons (by omega), (List.getElem?_eq_some_iff.1 hx).2, show s - 1 + 1 = s from by omega]
    have hd2 : ts.drop (s - 2) = y :: x :: ts.drop s := by
      rw [List.drop_eq_getElem_cons (by omega), (List.getElem?_eq_some_iff.1 hy).2, show s - 2 + 1 = s - 1 from by omega, hd1]
    have hn2 : nondecr (ts.drop (s - 2)) = (!decide (cmpF x y < 0) && nondecr (ts.drop (s - 1))) := by rw [hd2, hd1]; rfl
    rw [ea] at ih ⊢
    conv => whnf
    refine ⟨⟨[(0, .q), (1, .q), (2, .q), (3, .q), (4, .q), (5, .q), (6, .q), (7, .q), (8, .q), (9, .q), (10, .g), (11, .q)], [0, 0, 0, 6, 14, 0, 0, 64, 224, 480, 1023, 2047], by decide +kernel, ?_⟩⟩
    conv => whnf
    refine ⟨⟨by omega, by omega⟩, ?_⟩
    conv => whnf
    refine LdE.run x l1 (by rw [show ((s : Int) - 1).toNat = s - 1 from by omega]; exact c1) ?_
    conv => whnf
    rw [show IntKind.i64.wrap ((s : Int) - 1 - 1) = (s : Int) - 2 from by rw [IntWalk.i64_in _ (by omega)]; omega]
    refine ⟨⟨by omega, by omega⟩, ?_⟩
    conv => whnf
    refine LdE.run y l2 (by rw [show ((s : Int) - 2).toNat = s - 2 from by omega]; exact c2) ?_
    conv => whnf
    refine (order33 m x y h l1 l2).E ?_
    conv => whnf
    refine br (fun q => ?_) (fun q => ?_)
    · conv => whnf
      refine ⟨?_, rfl⟩
      have hf : nondecr ts = false := by
        cases hh : nondecr ts with
        | false => rfl
        | true => have := nondecr_drop (s - 2) ts hh; rw [hn2, q] at this; cases this
      rw [hf]
    · conv => whnf
      rw [show IntKind.i64.wrap ((s : Int) - 1 - 1) = ((s - 1 : Nat) : Int) - 1 from by rw [IntWalk.i64_in _ (by omega)]; omega]
      have := ih (s - 1) ⟨by omega, by rw [show s - 1 - 1 = s - 2 from by omega, hn2, q, hnd]; rfl⟩ (by omega)
      refine WkE.next _ 0 _ ?_ ?_ ?_ ?_ this
      · exact ⟨rfl, rfl, rfl, trivial⟩
      · exact trivial
      · rfl
      · rfl
  · refine br (fun q => absurd (of_decide_eq_true q) (by omega)) (fun _ => ?_)
    conv => whnf
    refine ⟨?_, rfl⟩
    rw [show s - 1 = 0 from by omega, List.drop_zero] at hnd
    rw [hnd]
end Go.Proofs.YtfiephhdkloaeaaGreat.Ch
end

section
open Go Go.Conc Go.Proofs Go.Proofs.YtfiephhdkloaeaaGreat.Ch
set_option maxRecDepth 100000
set_option maxHeartbeats 2000000
namespace Go.Proofs.YtfiephhdkloaeaaGreat.Ch
def insAll (ks : List (List Int)) (ts : List (List Int)) : List (List Int) := ts.foldl ins ks
theorem known30 (m : Bool) (w : Win) (h : Hp) (hE : EpsAt h w.ea w.es) (ht : tot w.es ≤ 2 ^ 20) (hl : w.es.length ≤ 2 ^ 20) :
    CallsV Tryz.prog m 30 [winA w] h (fun r h' => Sub h h' ∧ ∃ b, r = .map (some b) ∧ MapOwn h h' b .u8 (insAll [] (allF w.es))) := by
  refine fnc Tryz.func30 ⟨rfl, by simp [wfL, AV.wf, winA]⟩ rfl ?_
  unfold winA
  conv => whnf
  refine OpX.mapNew (h0 := h) (k := .u8) rfl (fun _ _ h => h) ?_
  intro b h1 o1 s1 _
  refine ⟨True.intro, ?_⟩
  conv => whnf
  refine WkE.loop (ι := Nat × Hp) (fun s => [(12, .int .i64 s.1), (11, .int .i64 w.es.length), (10, .sl w.ea w.es.length w.ec), (3, .map (some b))]) 0 (fun _ => []) (fun s => s.2)
    (fun s => s.1 ≤ w.es.length ∧ Sub h s.2 ∧ MapOwn h s.2 b .u8 (insAll [] (allF (w.es.take s.1)))) (fun s => w.es.length - s.1) (0, h1) ⟨by simp, s1, o1⟩ rfl
    (by exact ⟨rfl, rfl, rfl, rfl, trivial⟩) trivial rfl rfl ?_
  rintro X ⟨k, hh⟩ ⟨hk, hsub, hown⟩ ih
  simp only at hk hsub hown ih ⊢
  conv => whnf
  by_cases h1 : k < w.es.length
  · refine br (fun _ => ?_) (fun q => absurd (of_decide_eq_false q) (by omega))
    obtain ⟨e, he⟩ : ∃ e, w.es[k]? = some e := ⟨_, List.getElem?_eq_getElem h1⟩
    obtain ⟨ad, hea, hc⟩ := (hE.up hsub).at he
    have heOK := hE.2 e (List.mem_of_getElem? he)
    have hetl : e.tags.length ≤ 2 ^ 20 := by
      have h1 := tot_take he
      have h2 := tot_take_le w.es (k + 1)
      omega
    rw [hea] at ih ⊢
    conv => whnf
    refine ⟨⟨by omega, by omega⟩, ?_⟩
    conv => whnf
    refine LdE.agg [.int .i64 e.num, .sl e.ta e.tags.length e.tc] rfl ⟨trivial, trivial, trivial⟩ hc rfl ?_
    conv => whnf
    refine WkE.loop (ι := Nat × Hp) (fun s => [(20, .int .i64 s.1), (19, .int .i64 e.tags.length), (18, .sl e.ta e.tags.length e.tc), (4, .int .i64 k), (12, .int .i64 k), (11, .int .i64 w.es.length), (10, .sl (some ad) w.es.length w.ec), (3, .map (some b))]) 0 (fun _ => []) (fun s => s.2)
      (fun s => s.1 ≤ e.tags.length ∧ Sub h s.2 ∧ MapOwn h s.2 b .u8 (insAll [] (allF (w.es.take k) ++ e.tags.take s.1))) (fun s => e.tags.length - s.1) (0, hh) ⟨by simp, hsub, by simpa using hown⟩ rfl
      (by exact ⟨rfl, rfl, rfl, rfl, rfl, rfl, rfl, rfl, trivial⟩) trivial rfl rfl ?_
    rintro Y ⟨j, hj'⟩ ⟨hj, hsub2, hown2⟩ ih2
    simp only at hj hsub2 hown2 ih2 ⊢
    conv => whnf
    by_cases hjl : j < e.tags.length
    · refine br (fun _ => ?_) (fun q => absurd (of_decide_eq_false q) (by omega))
      obtain ⟨x, hx⟩ : ∃ t, e.tags[j]? = some t := ⟨_, List.getElem?_eq_getElem hjl⟩
      obtain ⟨tad, hta, hc1⟩ := EpOK.at (h := hj') ⟨heOK.1.up hsub2, heOK.2⟩ hx
      have l1 := heOK.2 x (List.mem_of_getElem? hx)
      rw [hta] at ih2 ⊢
      conv => whnf
      refine ⟨⟨by omega, by omega⟩, ?_⟩
      conv => whnf
      refine LdE.run x l1 (by exact hc1) ?_
      conv => whnf
      have h16 : ∀ t ∈ insAll [] (allF (w.es.take k) ++ e.tags.take j), t.length = 16 := by
        have key : ∀ (ts ks : List (List Int)), (∀ t ∈ ks, t.length = 16) → (∀ t ∈ ts, t.length = 16) → ∀ t ∈ insAll ks ts, t.length = 16 := by
          intro ts
          induction ts with
          | nil => intro ks h1 _; exact h1
          | cons y ts ih =>
            intro ks h1 h2
            refine ih (ins ks y) (fun t ht => ?_) fun t ht => h2 t (List.mem_cons_of_mem _ ht)
            unfold ins at ht
            split at ht
            · exact h1 t ht
            · rcases List.mem_append.1 ht with h3 | h3
              · exact h1 t h3
              · rw [List.mem_singleton.1 h3]; exact h2 y (List.mem_cons_self ..)
        refine key _ [] (fun t ht => by cases ht) fun t ht => ?_
        rcases List.mem_append.1 ht with h3 | h3
        · obtain ⟨e', he', h4⟩ := List.mem_flatMap.1 h3
          exact (hE.2 e' (List.mem_of_mem_take he')).2 t h4
        · exact heOK.2 t (List.mem_of_mem_take h3)
      refine ⟨rfl, ?_⟩
      conv => whnf
      refine ⟨rfl, ?_⟩
      conv => whnf
      refine OpX.mapPut tab_ok (h0 := h) (t := 70) (m := 16) (k := .u8) (xs := x) (r := b) (ks := insAll [] (allF (w.es.take k) ++ e.tags.take j)) rfl Tryz.underlying75 rfl rfl (by exact rfl) (by exact rfl) l1 h16 hsub2 hown2 ?_
      intro h3 o3 s3
      refine ⟨True.intro, ?_⟩
      conv => whnf
      rw [show IntKind.i64.wrap ((j : Int) + 1) = ((j + 1 : Nat) : Int) from by rw [IntWalk.i64_in _ (by omega)]; omega]
      have := ih2 (j + 1, h3) ⟨by simp only; omega, s3, by
        have e1 : e.tags.take (j + 1) = e.tags.take j ++ [x] := by rw [List.take_add_one, hx]; rfl
        simp only
        rw [e1, ← List.append_assoc]
        unfold insAll at o3 ⊢
        rw [List.foldl_append]
        exact o3⟩ (by simp only; omega)
      refine WkE.next _ 0 _ ?_ ?_ ?_ ?_ this
      · exact ⟨rfl, rfl, rfl, rfl, rfl, rfl, rfl, rfl, trivial⟩
      · exact trivial
      · rfl
      · rfl
    · refine br (fun q => absurd (of_decide_eq_true q) (by omega)) (fun _ => ?_)
      have hje : j = e.tags.length := by omega
      conv => whnf
      rw [show IntKind.i64.wrap ((k : Int) + 1) = ((k + 1 : Nat) : Int) from by rw [IntWalk.i64_in _ (by omega)]; omega]
      have := ih (k + 1, hj') ⟨by simp only; omega, hsub2, by
        simp only
        rw [allF_take he]
        rw [hje, List.take_length] at hown2
        exact hown2⟩ (by simp only; omega)
      refine WkE.next _ 0 _ ?_ ?_ ?_ ?_ this
      · exact ⟨rfl, rfl, rfl, rfl, trivial⟩
      · exact trivial
      · rfl
      · rfl
  · refine br (fun q => absurd (of_decide_eq_true q) (by omega)) (fun _ => ?_)
    have : k = w.es.length := by omega
    subst this
    conv => whnf
    rw [List.take_length] at hown
    exact ⟨hsub, b, rfl, hown⟩
end Go.Proofs.YtfiephhdkloaeaaGreat.Ch
end
