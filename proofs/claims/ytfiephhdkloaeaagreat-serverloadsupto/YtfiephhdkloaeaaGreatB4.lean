/- A part of the proof. -/
import Derived.Test.YtfiephhdkloaeaaGreatB3
import Derived.Test.YtfiephhdkloaeaaGreatA4
section
open Go Go.Conc Go.Proofs Go.Proofs.YtfiephhdkloaeaaGreat.Ch
set_option maxRecDepth 100000
set_option maxHeartbeats 2000000
namespace Go.Proofs.YtfiephhdkloaeaaGreat.Ch
def epW (newest span : Int) (prev : Option Int) (e : Ep) : Bool :=
  !decide (e.num < 0) && (decide (e.num ≤ newest) && decide (newest - e.num < span)) && (prev.all fun p => !decide (e.num ≤ p)) && !decide ((e.tags.length : Int) = 0) && nondecr e.tags
def epsW (newest span : Int) : Option Int → List Ep → Bool
  | _, [] => true
  | prev, e :: es => epW newest span prev e && epsW newest span (some e.num) es
def checkW (w : Win) (span room : Int) : Int :=
  if span < 1 then 2 else if 8 < span then 2 else if room < 0 then 2 else if 4096 < room then 2 else if w.newest < 0 then 2 else if 4611686018427387904 < w.newest then 2 else if room < (tot w.es : Int) then 2
  else if (insAll [] (allF w.es)).length = tot w.es then (if epsW w.newest span none w.es = true then 0 else 2) else 2

theorem check20 (m : Bool) (w : Win) (span room : Int) (h : Hp) (hE : EpsAt h w.ea w.es) (ht : tot w.es ≤ 2 ^ 20) (hl : w.es.length ≤ 2 ^ 20) :
    CallsV Tryz.prog m 20 [winA w, .int .i64 span, .int .i64 room] h (fun r h' => Sub h h' ∧ r = .int .i64 (checkW w span room)) := by
  refine fnc Tryz.func20 ⟨rfl, by simp [wfL, AV.wf, winA]⟩ rfl ?_
  have leaf : ∀ v, v = checkW w span room → RetE (fun r h' => Sub h h' ∧ r = .int .i64 (checkW w span room)) (.int .i64 v) h := fun v hv => ⟨⟨fun _ _ h => h, by rw [hv]⟩⟩
  unfold winA
  conv => whnf
  refine br (fun q1 => ?_) (fun q1 => ?_)
  · conv => whnf
    exact leaf _ (by rw [checkW, if_pos (of_decide_eq_true q1)])
  have q1 := of_decide_eq_false q1
  conv => whnf
  refine br (fun q2 => ?_) (fun q2 => ?_)
  · conv => whnf
    exact leaf _ (by rw [checkW, if_neg q1, if_pos (of_decide_eq_true q2)])
  have q2 := of_decide_eq_false q2
  conv => whnf
  refine br (fun q3 => ?_) (fun q3 => ?_)
  · conv => whnf
    exact leaf _ (by rw [checkW, if_neg q1, if_neg q2, if_pos (of_decide_eq_true q3)])
  have q3 := of_decide_eq_false q3
  conv => whnf
  refine br (fun q4 => ?_) (fun q4 => ?_)
  · conv => whnf
    exact leaf _ (by rw [checkW, if_neg q1, if_neg q2, if_neg q3, if_pos (of_decide_eq_true q4)])
  have q4 := of_decide_eq_false q4
  conv => whnf
  refine ⟨⟨[(0, .q), (1, .q), (2, .q), (3, .q), (4, .q), (5, .q), (6, .q), (7, .q), (8, .q), (9, .q), (11, .q), (10, .g), (12, .q), (13, .q), (14, .q), (15, .q), (18, .q), (16, .g), (17, .g), (19, .g), (20, .q), (21, .q)], [0, 1, 3, 7, 15, 31, 63, 127, 255, 511, 1023, 511, 4095, 8191, 16383, 32767, 65535, 131071, 32767, 524287, 1048575, 2097151], by decide +kernel, ?_⟩⟩
  conv => whnf
  refine br (fun q5 => ?_) (fun q5 => ?_)
  · conv => whnf
    exact leaf _ (by rw [checkW, if_neg q1, if_neg q2, if_neg q3, if_neg q4, if_pos (of_decide_eq_true q5)])
  have q5 := of_decide_eq_false q5
  conv => whnf
  refine br (fun q6 => ?_) (fun q6 => ?_)
  · conv => whnf
    exact leaf _ (by rw [checkW, if_neg q1, if_neg q2, if_neg q3, if_neg q4, if_neg q5, if_pos (of_decide_eq_true q6)])
  have q6 := of_decide_eq_false q6
  conv => whnf
  refine (len29 m w h hE (by omega) (by omega)).E ?_
  conv => whnf
  refine br (fun q7 => ?_) (fun q7 => ?_)
  · conv => whnf
    exact leaf _ (by rw [checkW, if_neg q1, if_neg q2, if_neg q3, if_neg q4, if_neg q5, if_neg q6, if_pos (of_decide_eq_true q7)])
  have q7 := of_decide_eq_false q7
  have hspec : checkW w span room = if (insAll [] (allF w.es)).length = tot w.es then (if epsW w.newest span none w.es = true then 0 else 2) else 2 := by
    rw [checkW, if_neg q1, if_neg q2, if_neg q3, if_neg q4, if_neg q5, if_neg q6, if_neg q7]
  conv => whnf
  refine CallE.of (known30 m w h hE ht hl) ?_
  rintro r h1 _ _ ⟨s1, b, rfl, o1⟩
  refine ⟨True.intro, ?_⟩
  conv => whnf
  refine OpX.mapLen rfl rfl rfl rfl Tryz.underlying75 rfl o1 ⟨True.intro, ?_⟩
  conv => whnf
  refine (len29 m w h1 (hE.up s1) (by omega) (by omega)).E ?_
  conv => whnf
  have leaf1 : ∀ v, v = checkW w span room → RetE (fun r h' => Sub h h' ∧ r = .int .i64 (checkW w span room)) (.int .i64 v) h1 := fun v hv => ⟨⟨s1, by rw [hv]⟩⟩
  refine br (fun q8 => ?_) (fun q8 => ?_)
  · have q8 : ¬ (insAll [] (allF w.es)).length = tot w.es := fun e => by rw [e] at q8; simp at q8
    conv => whnf
    exact leaf1 _ (by rw [hspec, if_neg q8])
  have q8 : (insAll [] (allF w.es)).length = tot w.es := by
    have z' := Bool.not_eq_false' .. ▸ q8
    have := of_decide_eq_true z'
    omega
  rw [if_pos q8] at hspec
  conv => whnf
  have hE1 := hE.up s1
  have bad : epsW w.newest span none w.es = false → 2 = checkW w span room := fun hb => by rw [hspec, hb, if_neg (by simp)]
  refine WkE.loop (ι := Nat) (fun k => [(48, .int .i64 k), (47, .int .i64 w.es.length), (46, .sl w.ea w.es.length w.ec), (3, .bptr 0 0 0), (1, .int .i64 span)]) 1 (fun _ => [(0, 27, [.int .i64 w.newest, .sl w.ea w.es.length w.ec])]) (fun _ => h1)
    (fun k => k ≤ w.es.length ∧ epsW w.newest span none w.es = epsW w.newest span (prevOf w.es k) (w.es.drop k)) (fun k => w.es.length - k) 0 ⟨by omega, rfl⟩ rfl
    (by exact ⟨rfl, rfl, rfl, rfl, rfl, trivial⟩) (by exact ⟨rfl, trivial⟩) rfl rfl ?_
  intro X k ⟨hk, hinv⟩ ih
  conv => whnf
  by_cases hkl : k < w.es.length
  · refine br (fun _ => ?_) (fun q => absurd (of_decide_eq_false q) (by omega))
    obtain ⟨e, he⟩ : ∃ e, w.es[k]? = some e := ⟨_, List.getElem?_eq_getElem hkl⟩
    obtain ⟨ad, hea, hc⟩ := hE1.at he
    have heOK := hE1.2 e (List.mem_of_getElem? he)
    have hetl : e.tags.length ≤ 2 ^ 20 := by
      have h1 := tot_take he
      have h2 := tot_take_le w.es (k + 1)
      omega
    have hdrop : w.es.drop k = e :: w.es.drop (k + 1) := by rw [List.drop_eq_getElem_cons hkl, (List.getElem?_eq_some_iff.1 he).2]
    rw [hdrop] at hinv
    have bade : epW w.newest span (prevOf w.es k) e = false → 2 = checkW w span room := fun hb => bad (by rw [hinv, epsW, hb]; rfl)
    rw [hea] at ih ⊢
    conv => whnf
    refine ⟨⟨by omega, by omega⟩, ?_⟩
    conv => whnf
    refine LdE.agg [.int .i64 e.num, .sl e.ta e.tags.length e.tc] rfl ⟨trivial, trivial, trivial⟩ hc rfl ?_
    conv => whnf
    refine ⟨⟨[(0, .q), (1, .q), (2, .q), (3, .q), (4, .q), (5, .q), (6, .q), (7, .q), (8, .q), (9, .g), (10, .q), (11, .q), (12, .q), (13, .q), (14, .q), (15, .q), (16, .q), (17, .q), (18, .q), (19, .q), (20, .q), (21, .q), (22, .q), (23, .q), (24, .q), (25, .q), (26, .q), (27, .q), (28, .q), (29, .q), (30, .q), (31, .q), (32, .q), (33, .q)], [0, 1, 3, 7, 15, 31, 15, 79, 15, 511, 1023, 2047, 4095, 8191, 16383, 32767, 65535, 131071, 65535, 327679, 65535, 1114111, 3997695, 8191999, 16580607, 33554431, 67108863, 134217727, 268435455, 536870911, 1073741823, 2147483647, 4294967295, 8589934591], by decide +kernel, ?_⟩⟩
    conv => whnf
    refine br (fun p1 => ?_) (fun p1 => ?_)
    · conv => whnf
      exact leaf1 _ (bade (by simp [epW, of_decide_eq_true p1]))
    have p1 := of_decide_eq_false p1
    conv => whnf
    have wr : e.num ≤ w.newest → IntKind.i64.wrap (w.newest - e.num) = w.newest - e.num := fun hh => IntWalk.i64_in _ (by omega)
    refine (kept31 m e.num w.newest span h1).B (fun p2 => ?_) (fun p2 => ?_)
    · have p2 : (decide (e.num ≤ w.newest) && decide (w.newest - e.num < span)) = true := by
        simp only [Bool.and_eq_true, decide_eq_true_eq] at p2 ⊢
        rw [wr p2.1] at p2; exact p2
      have key : (prevOf w.es k).all (fun p => !decide (e.num ≤ p)) = true → ¬ (e.tags.length : Int) = 0 → nondecr e.tags = true → epsW w.newest span none w.es = epsW w.newest span (prevOf w.es (k + 1)) (w.es.drop (k + 1)) := by
        intro c1 c2 c3
        rw [hinv, epsW, epW, c1, c3, p2, decide_eq_false p1, decide_eq_false c2]
        simp only [prevOf, he, Option.map_some, Bool.not_false, Bool.and_self, Bool.true_and]
      have badp : (prevOf w.es k).all (fun p => !decide (e.num ≤ p)) = false → 2 = checkW w span room := fun hb => bade (by rw [epW, hb]; simp)
      have badl : (e.tags.length : Int) = 0 → 2 = checkW w span room := fun hb => bade (by simp [epW, hb])
      have badi : nondecr e.tags = false → 2 = checkW w span room := fun hb => bade (by rw [epW, hb]; simp)
      by_cases hk0 : 0 < k
      · obtain ⟨e', he'⟩ : ∃ e', w.es[k - 1]? = some e' := ⟨_, List.getElem?_eq_getElem (by omega)⟩
        obtain ⟨ad', hea', hc'⟩ := hE1.at he'
        rw [hea] at hea'; cases hea'
        have hprev : prevOf w.es k = some e'.num := by
          obtain ⟨k', rfl⟩ : ∃ k', k = k' + 1 := ⟨k - 1, by omega⟩
          simp only [Nat.add_sub_cancel] at he'
          simp only [prevOf, he', Option.map_some]
        have hk1 : ((k : Int) - 1).toNat = k - 1 := by omega
        conv => whnf
        refine br (fun _ => ?_) (fun q => absurd (of_decide_eq_false q) (by omega))
        conv => whnf
        rw [IntWalk.i64_in _ (by omega)]
        refine ⟨by omega, ?_⟩
        conv => whnf
        refine LdE.one (.int .i64 e'.num) rfl rfl trivial (by rw [hk1]; exact EpOK.num hc') ?_
        conv => whnf
        refine brD (fun q9 => ?_) (fun q9 => ?_)
        conv => whnf
        rotate_left
        conv => whnf
        refine brD (fun q10 => ?_) (fun q10 => ?_)
        conv => whnf
        rotate_left
        conv => whnf
        refine (isSorted32 m e.ta e.tc e.tags.length e.tags h1 rfl (by omega) heOK.2 heOK.1).B (fun p7 => ?_) (fun p7 => ?_)
        conv => whnf
        rw [IntWalk.i64_in _ (by omega)]
        rotate_left
        conv => whnf
        rotate_left
        · exact leaf1 _ (badp (by rw [hprev]; simp [q9]))
        · exact leaf1 _ (badl q10)
        · have := ih (k + 1) ⟨by omega, key (by rw [hprev]; simp; omega) q10 p7⟩ (by omega)
          refine WkE.next _ 1 _ ?_ ?_ ?_ ?_ this
          · exact ⟨rfl, rfl, rfl, rfl, rfl, trivial⟩
          · exact ⟨rfl, trivial⟩
          · rfl
          · rfl
        · exact leaf1 _ (badi p7)
      · have hk00 : k = 0 := by omega
        conv => whnf
        refine br (fun q => absurd (of_decide_eq_true q) (by omega)) (fun _ => ?_)
        conv => whnf
        refine brD (fun q9 => ?_) (fun q9 => ?_)
        conv => whnf
        rotate_left
        conv => whnf
        refine (isSorted32 m e.ta e.tc e.tags.length e.tags h1 rfl (by omega) heOK.2 heOK.1).B (fun p7 => ?_) (fun p7 => ?_)
        conv => whnf
        rw [IntWalk.i64_in _ (by omega)]
        rotate_left
        conv => whnf
        rotate_left
        · exact leaf1 _ (badl q9)
        · have := ih (k + 1) ⟨by omega, key (by subst hk00; rfl) q9 p7⟩ (by omega)
          refine WkE.next _ 1 _ ?_ ?_ ?_ ?_ this
          · exact ⟨rfl, rfl, rfl, rfl, rfl, trivial⟩
          · exact ⟨rfl, trivial⟩
          · rfl
          · rfl
        · exact leaf1 _ (badi p7)
    · have p2 : (decide (e.num ≤ w.newest) && decide (w.newest - e.num < span)) = false := by
        cases hd : (decide (e.num ≤ w.newest) && decide (w.newest - e.num < span)) with
        | false => rfl
        | true =>
          simp only [Bool.and_eq_true, decide_eq_true_eq] at hd
          rw [wr hd.1] at p2
          simp [hd] at p2
      conv => whnf
      exact leaf1 _ (bade (by rw [epW, p2]; simp))
  · refine br (fun q => absurd (of_decide_eq_true q) (by omega)) (fun _ => ?_)
    have : k = w.es.length := by omega
    subst this
    rw [List.drop_of_length_le (Nat.le_refl _)] at hinv
    have hok : epsW w.newest span none w.es = true := by rw [hinv]; cases prevOf w.es w.es.length <;> rfl
    conv => whnf
    exact leaf1 _ (by rw [hspec, if_pos hok])
end Go.Proofs.YtfiephhdkloaeaaGreat.Ch
end

section
open Go Go.Conc Go.Proofs Go.Proofs.YtfiephhdkloaeaaGreat.Ch
set_option maxRecDepth 100000
set_option maxHeartbeats 2000000
namespace Go.Proofs.YtfiephhdkloaeaaGreat.Ch
def checkR (c : Cfg) (s : St) : Int := if c.right = true ∧ ¬ s.next < 0 ∧ ¬ 4611686018427387904 < s.next ∧ checkW s.win c.span c.room = 0 then 0 else 210
theorem check13 (m : Bool) (c : Cfg) (s : St) (h : Hp) (hE : EpsAt h s.win.ea s.win.es) (ht : tot s.win.es ≤ 2 ^ 20) (hl : s.win.es.length ≤ 2 ^ 20) :
    CallsV Tryz.prog m 13 [c.av, s.av] h (fun r h' => Sub h h' ∧ r = .int .i64 (checkR c s)) := by
  refine fnc Tryz.func13 ⟨rfl, by simp [wfL, AV.wf, Cfg.av, St.av]⟩ rfl ?_
  have leaf : ∀ h', Sub h h' → ∀ v, v = checkR c s → RetE (fun r h' => Sub h h' ∧ r = .int .i64 (checkR c s)) (.int .i64 v) h' := fun h' hs v hv => ⟨⟨hs, by rw [hv]⟩⟩
  unfold Cfg.av St.av
  conv => whnf
  refine (right19 m c h).B (fun p => ?_) (fun p => ?_)
  conv => whnf
  refine brD (fun q1 => ?_) (fun q1 => ?_)
  conv => whnf
  rotate_left
  conv => whnf
  refine brD (fun q2 => ?_) (fun q2 => ?_)
  conv => whnf
  rotate_left
  conv => whnf
  refine CallE.of (check20 m s.win c.span c.room h hE ht hl) ?_; rintro r h' _ _ ⟨s1, rfl⟩; refine ⟨True.intro, ?_⟩
  conv => whnf
  refine brN (fun q3 => ?_) (fun q3 => ?_)
  conv => whnf
  rotate_left
  conv => whnf
  rotate_left
  conv => whnf
  rotate_left
  · exact leaf h (fun _ _ h => h) _ (by rw [checkR, if_neg (fun hh => hh.2.1 q1)])
  · exact leaf h (fun _ _ h => h) _ (by rw [checkR, if_neg (fun hh => hh.2.2.1 q2)])
  · exact leaf _ s1 _ (by rw [checkR, if_neg (fun hh => q3 hh.2.2.2)])
  · exact leaf _ s1 _ (by rw [checkR, if_pos ⟨p, q1, q2, q3⟩])
  · exact leaf h (fun _ _ h => h) _ (by rw [checkR, if_neg (fun hh => by rw [p] at hh; exact absurd hh.1 (by simp))])
end Go.Proofs.YtfiephhdkloaeaaGreat.Ch
end

section
open Go Go.Conc Go.Proofs Go.Proofs.YtfiephhdkloaeaaGreat.Ch
set_option maxRecDepth 100000
set_option maxHeartbeats 2000000
namespace Go.Proofs.YtfiephhdkloaeaaGreat.Ch
theorem set_flat (es : List Ep) (tail : List Value) (k : Nat) (e : Ep) (a2 : Option Addr) (c2 : Nat) (he : es[k]? = some e) :
    (es.flatMap epV ++ tail).set (k * 2 + 1) (.slice a2 e.tags.length c2) = (es.set k ⟨e.num, a2, c2, e.tags⟩).flatMap epV ++ tail := by
  induction es generalizing k with
  | nil => simp at he
  | cons x es ih =>
    cases k with
    | zero => simp at he; subst he; simp [epV]
    | succ k =>
      simp only [List.getElem?_cons_succ] at he
      have := ih k he
      rw [show (k + 1) * 2 + 1 = (k * 2 + 1) + 1 + 1 from by omega]
      simp only [List.flatMap_cons, epV, List.cons_append, List.nil_append, List.set_cons_succ] at this ⊢
      rw [this]
theorem Own.slAt_del {h0 h : Hp} {a : Option Addr} {len c el sz b : Nat} {x : Bool × Obj} {xs : List Value} (ho : Own h0 h (.sl a len c) len el sz xs) (hb : h0 b = some x) : SlAt (h.del b) a xs := by
  obtain ⟨hl, a', cap', e1, h1⟩ := ho
  cases e1
  rcases h1 with ⟨rfl, rfl, rfl⟩ | ⟨blk, tail, rfl, h2, h3, h4, h5⟩
  · left; exact List.eq_nil_of_length_eq_zero (by simpa using hl)
  · right
    have hne : blk ≠ b := fun e => by rw [e, hb] at h2; cases h2
    refine ⟨_, rfl, cellsAt_of_block (by rw [Hp.del_ne _ hne]; exact h3) fun i w hi => ?_⟩
    rw [Nat.zero_add, List.getElem?_append_left (List.getElem?_eq_some_iff.1 hi).1]; exact hi
theorem Hp.set_del (h : Hp) (b : Nat) (x : Bool × Obj) : (h.del b).set b x = h.set b x := by
  funext c; unfold Hp.set Hp.del; split <;> rfl
theorem copied15 (m : Bool) (s : St) (h : Hp) (hE : EpsAt h s.win.ea s.win.es) (ht : ∀ e ∈ s.win.es, e.tags.length ≤ 2 ^ 20) (hl : s.win.es.length ≤ 2 ^ 20) :
    CallsV Tryz.prog m 15 [s.av] h (fun r h' => Sub h h' ∧ ∃ s' : St, r = s'.av ∧ eqSt s' s ∧ EpsAt h' s'.win.ea s'.win.es) := by
  refine fnc Tryz.func15 ⟨rfl, by simp [wfL, AV.wf, St.av]⟩ rfl ?_
  unfold St.av
  conv => whnf
  refine CallE.of (clone21 m s.win.ea s.win.ec s.win.es.length s.win.es h rfl hl hE.1) ?_; rintro r h1 _ _ ⟨s1, o1⟩; obtain ⟨a1, c1, rfl⟩ : ∃ a c, r = .sl a s.win.es.length c := ⟨_, _, o1.2.choose_spec.choose_spec.1⟩; refine ⟨True.intro, ?_⟩
  conv => whnf
  obtain ⟨ol, a', c', e1, hcase⟩ := o1
  cases e1
  rcases hcase with ⟨rfl, hlen, rfl⟩ | ⟨blk, tail, rfl, hb0, hb1, htl, hlc⟩
  · refine WkE.loop (ι := Nat) (fun k => [(14, .int .i64 k), (13, .int .i64 s.win.es.length), (1, .bptr 0 0 0), (2, .bptr 1 0 0)]) 2 (fun _ => [(0, 29, [.int .i64 s.next, .int .i64 s.win.newest, .sl none s.win.es.length 0]), (1, 29, [.int .i64 0, .int .i64 0, .sl none 0 0])]) (fun _ => h1)
      (fun k => k = 0) (fun _ => 0) 0 rfl rfl (by exact ⟨rfl, rfl, rfl, rfl, trivial⟩) (by exact ⟨rfl, rfl, trivial⟩) rfl rfl ?_
    rintro X k rfl ih
    conv => whnf
    refine br (fun q => absurd (of_decide_eq_true q) (by omega)) (fun _ => ?_)
    conv => whnf
    have hnil : s.win.es = [] := List.eq_nil_of_length_eq_zero hlen
    refine ⟨s1, ⟨s.next, ⟨s.win.newest, none, 0, s.win.es⟩⟩, rfl, ⟨rfl, rfl, rfl⟩, ?_, ?_⟩
    · rw [hnil]; exact .inl rfl
    · rw [hnil]; intro e he; cases he
  · refine WkE.loop (ι := Nat × Hp) (fun k => [(14, .int .i64 k.1), (13, .int .i64 s.win.es.length), (1, .bptr 0 0 0), (2, .bptr 1 0 0)]) 2 (fun _ => [(0, 29, [.int .i64 s.next, .int .i64 s.win.newest, .sl (some ⟨blk, 0, none⟩) s.win.es.length c1]), (1, 29, [.int .i64 0, .int .i64 0, .sl none 0 0])]) (fun k => k.2)
      (fun k => k.1 ≤ s.win.es.length ∧ ∃ es' : List Ep, ∃ hm : Hp, es'.length = s.win.es.length ∧ eqEps es' s.win.es ∧ hm blk = none ∧ Sub h hm ∧ k.2 = hm.set blk (true, .cells (es'.flatMap epV ++ tail).toArray 57 (0, 0)) ∧ ∀ e ∈ es', EpOK hm e) (fun k => s.win.es.length - k.1) (0, h1)
      ⟨by simp, s.win.es, h1.del blk, rfl, rfl, Hp.del_same _ _, sub_del s1 hb0, Hp.del_set hb1, fun e he => ⟨(hE.2 e he).1.up (sub_del s1 hb0), (hE.2 e he).2⟩⟩ rfl (by exact ⟨rfl, rfl, rfl, rfl, trivial⟩) (by exact ⟨rfl, rfl, trivial⟩) rfl rfl ?_
    rintro X ⟨k, hh⟩ ⟨hk, es', hm, hlen', heq, hmb, hsub, rfl, hok⟩ ih
    simp only at hk ih ⊢
    by_cases hkl : k < s.win.es.length
    · obtain ⟨e, he⟩ : ∃ e, es'[k]? = some e := ⟨_, List.getElem?_eq_getElem (by omega)⟩
      have hce : CellsAt (hm.set blk (true, .cells (es'.flatMap epV ++ tail).toArray 57 (0, 0))) ((⟨blk, 0, none⟩ : Addr).add (k * 2)) (epV e) := by
        obtain ⟨ad, q1, q2⟩ := SlAt.part (h := hm.set blk (true, .cells (es'.flatMap epV ++ tail).toArray 57 (0, 0))) (a := some ⟨blk, 0, none⟩) (f := epV) (k := 2) (.inr ⟨_, rfl, cellsAt_of_block (Hp.set_same _ _ _) fun i w hi => by
          rw [Nat.zero_add, List.getElem?_append_left (List.getElem?_eq_some_iff.1 hi).1]; exact hi⟩) (fun _ _ => rfl) he (by decide)
        cases q1; exact q2
      have hek : EpOK (hm.set blk (true, .cells (es'.flatMap epV ++ tail).toArray 57 (0, 0))) e := ⟨(hok e (List.mem_of_getElem? he)).1.up (sub_set' hmb), (hok e (List.mem_of_getElem? he)).2⟩
      have htl' : e.tags.length ≤ 2 ^ 20 := by
        have q := congrArg (fun l => l[k]?) heq
        simp only [List.getElem?_map, he, Option.map_some] at q
        obtain ⟨e0, he0⟩ : ∃ e0, s.win.es[k]? = some e0 := ⟨_, List.getElem?_eq_getElem hkl⟩
        rw [he0] at q
        simp only [Option.map_some, Option.some.injEq, Prod.mk.injEq] at q
        rw [q.2]; exact ht e0 (List.mem_of_getElem? he0)
      conv => whnf
      refine br (fun _ => ?_) (fun q => absurd (of_decide_eq_false q) (by omega))
      conv => whnf
      refine ⟨⟨[(0, .q), (1, .q), (2, .q), (3, .q), (4, .q), (5, .q), (6, .q), (7, .q), (8, .q), (9, .q), (10, .q), (11, .g), (12, .q), (13, .q), (14, .g)], [0, 1, 3, 0, 0, 16, 48, 0, 240, 496, 1008, 2032, 4095, 8191, 16383], by decide +kernel, ?_⟩⟩
      conv => whnf
      refine ⟨by omega, ?_⟩
      conv => whnf
      refine LdE.one (.sl e.ta e.tags.length e.tc) rfl rfl trivial (by exact EpOK.sl hce) ?_
      conv => whnf
      refine CallE.of (clone22 m e.ta e.tc e.tags.length e.tags _ rfl htl' hek.2 hek.1) ?_; rintro r h2 _ _ ⟨s2, o2⟩; obtain ⟨a2, c2, rfl⟩ : ∃ a c, r = .sl a e.tags.length c := ⟨_, _, o2.2.choose_spec.choose_spec.1⟩; refine ⟨by simp [pdQ, ev, lk, List.filter, Nat.testBit, KeepH], ?_⟩
      conv => whnf
      refine ⟨by omega, ?_⟩
      conv => whnf
      refine OpX.storeAt tab_ok (blk := blk) (off := k * 2 + 1) (v := .sl a2 e.tags.length c2) (l := es'.flatMap epV ++ tail) rfl rfl (by exact rfl) (by rw [add_off, add_off]; simp) (by exact rfl) rfl rfl (s2 _ _ (Hp.set_same _ _ _)) (by rw [List.length_append, epsV_len]; omega) ⟨by simp [pdQ, ev, lk, List.filter, Nat.testBit, KeepH], ?_⟩
      conv => whnf
      rw [IntWalk.i64_in _ (by omega)]
      have hfr : h2.set blk (true, .cells ((es'.flatMap epV ++ tail).set (k * 2 + 1) (.slice a2 e.tags.length c2)).toArray 57 (0, 0)) = (h2.del blk).set blk (true, .cells ((es'.set k ⟨e.num, a2, c2, e.tags⟩).flatMap epV ++ tail).toArray 57 (0, 0)) := by
        rw [Hp.set_del, set_flat _ _ _ _ _ _ he]
      have hsd : Sub hm (h2.del blk) := sub_del (fun c x hc => s2 c x (sub_set' hmb c x hc)) hmb
      have := ih (k + 1, _) ⟨by simp only; omega, es'.set k ⟨e.num, a2, c2, e.tags⟩, h2.del blk, by rw [List.length_set]; exact hlen', by
          unfold eqEps at heq ⊢
          rw [← heq, List.map_set]
          apply List.ext_getElem?
          intro i
          rw [List.getElem?_set]
          split
          · rename_i hi; subst hi; have hh : k < es'.length := (List.getElem?_eq_some_iff.1 he).1
            simp [hh, (List.getElem?_eq_some_iff.1 he).2]
          · rfl, Hp.del_same _ _, fun c x hc => hsd c x (hsub c x hc), hfr, fun e' he' => by
          rcases List.mem_or_eq_of_mem_set he' with h4 | rfl
          · exact ⟨(hok e' h4).1.up hsd, (hok e' h4).2⟩
          · exact ⟨o2.slAt_del (Hp.set_same _ _ _), hek.2⟩⟩ (by simp only; omega)
      refine WkE.next _ 2 _ ?_ ?_ ?_ ?_ this
      · exact ⟨rfl, rfl, rfl, rfl, trivial⟩
      · exact ⟨rfl, rfl, trivial⟩
      · rfl
      · rfl
    · conv => whnf
      refine br (fun q => absurd (of_decide_eq_true q) (by omega)) (fun _ => ?_)
      conv => whnf
      refine ⟨fun c x hc => sub_set' hmb c x (hsub c x hc), ⟨s.next, ⟨s.win.newest, some ⟨blk, 0, none⟩, c1, es'⟩⟩, by simp only [St.av, hlen'], ⟨rfl, rfl, heq⟩, ?_, ?_⟩
      · exact .inr ⟨_, rfl, cellsAt_of_block (Hp.set_same _ _ _) fun i w hi => by
          rw [Nat.zero_add, List.getElem?_append_left (List.getElem?_eq_some_iff.1 hi).1]; exact hi⟩
      · exact fun e' he' => ⟨(hok e' he').1.up (sub_set' hmb), (hok e' he').2⟩
end Go.Proofs.YtfiephhdkloaeaaGreat.Ch
end

section
open Go Go.Conc Go.Proofs Go.Proofs.YtfiephhdkloaeaaGreat.Ch
set_option maxRecDepth 100000
set_option maxHeartbeats 2000000
namespace Go.Proofs.YtfiephhdkloaeaaGreat.Ch
def stV (s : St) : List Value := [.int .i64 s.next, .int .i64 s.win.newest, .slice s.win.ea s.win.es.length s.win.ec]
def Loaded (c : Cfg) (s : St) (h : Hp) (r : AV) (h' : Hp) : Prop := Sub h h' ∧ (checkR c s ≠ 0 ∧ r = .tup [.nilp, .int .i64 (checkR c s)] ∨ checkR c s = 0 ∧ ∃ (blk : Nat) (s' : St), r = .tup [.ptr ⟨blk, 0, none⟩, .int .i64 0] ∧ CellsAt h' ((⟨blk, 0, none⟩ : Addr).add 11) (stV s') ∧ eqSt s' s ∧ EpsAt h' s'.win.ea s'.win.es)
theorem load5 (m : Bool) (c : Cfg) (s : St) (xs : List Int) (h : Hp) (hE : EpsAt h s.win.ea s.win.es) (ht : tot s.win.es ≤ 2 ^ 20) (hl : s.win.es.length ≤ 2 ^ 20) (hte : ∀ e ∈ s.win.es, e.tags.length ≤ 2 ^ 20) (hm : c.ml = xs.length) (hml : xs.length ≤ 2 ^ 20) (hms : SlAt h c.ma (ints .u8 xs)) :
    CallsV Tryz.prog m 5 [c.av, s.av] h (Loaded c s h) := by
  refine fnc Tryz.func5 ⟨rfl, by simp [wfL, AV.wf, Cfg.av, St.av]⟩ rfl ?_
  unfold Cfg.av St.av
  conv => whnf
  refine CallE.of (check13 m c s h hE ht hl) ?_; rintro r h1 _ _ ⟨s1, rfl⟩; refine ⟨True.intro, ?_⟩
  conv => whnf
  refine brN (fun q1 => ?_) (fun q1 => ?_)
  conv => whnf
  rotate_left
  conv => whnf
  refine CallE.of (clone14 m c.ma c.mc c.ml xs h1 hm hml (hms.up s1)) ?_; rintro r h2 _ _ ⟨s2, o2⟩; obtain ⟨a2, c2, rfl⟩ : ∃ a c, r = .sl a xs.length c := ⟨_, _, o2.2.choose_spec.choose_spec.1⟩; refine ⟨True.intro, ?_⟩
  conv => whnf
  refine ⟨⟨[(0, .q), (1, .q), (2, .g), (3, .q), (4, .g), (5, .q), (6, .q)], [0, 0, 2, 7, 15, 31, 63], by decide +kernel, ?_⟩⟩
  conv => whnf
  refine CallE.of (copied15 m s h2 ((hE.up s1).up s2) hte hl) ?_; rintro r h3 _ _ ⟨s3, s', rfl, eq3, E3⟩; refine ⟨by first | exact True.intro | simp [pdQ, ev, lk, List.filter, Nat.testBit, KeepH], ?_⟩; unfold St.av
  conv => whnf
  intro blk1 hblk1
  conv => whnf
  rotate_left
  · exact ⟨s1, .inl ⟨q1, rfl⟩⟩
  · refine ⟨fun b x hb => sub_set' hblk1 b x (s3 b x (s2 b x (s1 b x hb))), .inr ⟨by omega, blk1, s', by exact rfl, ?_, eq3, ?_⟩⟩
    · rw [add_off]
      refine cellsAt_of_block (Hp.set_same _ _ _) fun i v hi => ?_
      rw [Nat.zero_add, Nat.add_comm]
      match i, hi with
      | 0, hi => exact hi
      | 1, hi => exact hi
      | 2, hi => exact hi
      | i + 3, hi => simp [stV] at hi
    · exact ⟨E3.1.up (sub_set' hblk1), fun e he => ⟨(E3.2 e he).1.up (sub_set' hblk1), (E3.2 e he).2⟩⟩
def St0 : St := ⟨0, ⟨0, none, 0, []⟩⟩
theorem new9 (m : Bool) (c : Cfg) (xs : List Int) (h : Hp) (hm : c.ml = xs.length) (hml : xs.length ≤ 2 ^ 20) (hms : SlAt h c.ma (ints .u8 xs)) :
    CallsV Tryz.prog m 9 [c.av] h (Loaded c St0 h) := by
  refine fnc Tryz.func9 ⟨rfl, by simp [wfL, AV.wf, Cfg.av]⟩ rfl ?_
  unfold Cfg.av
  conv => whnf
  refine CallE.of (load5 m c St0 xs h ⟨.inl rfl, fun e he => by cases he⟩ (by decide) (by decide) (fun e he => by cases he) hm hml hms) ?_; rintro r h1 _ _ hL; have hL' := hL; rcases hL.2 with ⟨_, rfl⟩ | ⟨_, _, _, rfl, _⟩ <;> refine ⟨True.intro, ?_⟩
  conv => whnf
  rotate_left
  conv => whnf
  rotate_left
  all_goals exact ⟨hL⟩
theorem state8 (m : Bool) (blk : Nat) (s : St) (h : Hp) (hc : CellsAt h ((⟨blk, 0, none⟩ : Addr).add 11) (stV s)) (hE : EpsAt h s.win.ea s.win.es) (ht : ∀ e ∈ s.win.es, e.tags.length ≤ 2 ^ 20) (hl : s.win.es.length ≤ 2 ^ 20) :
    CallsV Tryz.prog m 8 [.ptr ⟨blk, 0, none⟩] h (fun r h' => Sub h h' ∧ ∃ s' : St, r = s'.av ∧ eqSt s' s ∧ EpsAt h' s'.win.ea s'.win.es) := by
  refine fnc Tryz.func8 ⟨rfl, by simp [wfL, AV.wf]⟩ rfl ?_
  conv => whnf
  refine LdE.agg [.int .i64 s.next, .int .i64 s.win.newest, .sl s.win.ea s.win.es.length s.win.ec] rfl ⟨trivial, trivial, trivial, trivial⟩ (by exact hc) rfl ?_
  conv => whnf
  refine CallE.of (copied15 m s h hE ht hl) ?_; rintro r h3 _ _ ⟨s3, s', rfl, eq3, E3⟩; refine ⟨True.intro, ?_⟩; unfold St.av
  conv => whnf
  exact ⟨s3, s', rfl, eq3, E3⟩
theorem state8nil (m : Bool) (h : Hp) : An m 8 [.nilp] h St0.av := by
  refine fnc Tryz.func8 ⟨rfl, by simp [wfL, AV.wf]⟩ rfl ?_
  conv => whnf
  exact ⟨rfl, rfl⟩
end Go.Proofs.YtfiephhdkloaeaaGreat.Ch
end

section
open Go Go.Conc Go.Proofs Go.Proofs.YtfiephhdkloaeaaGreat.Ch
set_option maxRecDepth 100000
set_option maxHeartbeats 2000000
namespace Go.Proofs.YtfiephhdkloaeaaGreat.Ch
def out210 : AV := .agg [.sl none 0 0, .int .i64 0, .int .i64 0, .sl none 0 0, .int .i64 0, .int .i64 0, .int .i64 0, .int .i64 0, .int .i64 0, .int .i64 210, .int .i64 0]
theorem put10nil (m : Bool) (a : Option Addr) (l c : Nat) (h : Hp) : An m 10 [.nilp, .sl a l c] h (.tup []) := by
  refine fnc Tryz.func10 ⟨rfl, by simp [wfL, AV.wf]⟩ rfl ?_
  conv => whnf
  exact ⟨rfl, rfl⟩
theorem round11nil (m : Bool) (h : Hp) : An m 11 [.nilp, .int .i64 0, .sl none 0 0, .sl none 0 0, .sl none 0 0] h out210 := by
  refine fnc Tryz.func11 ⟨rfl, by simp [wfL, AV.wf]⟩ rfl ?_
  conv => whnf
  exact ⟨rfl, rfl⟩
theorem finish12nil (m : Bool) (h : Hp) : An m 12 [.nilp, .sl none 0 0] h out210 := by
  refine fnc Tryz.func12 ⟨rfl, by simp [wfL, AV.wf]⟩ rfl ?_
  conv => whnf
  exact ⟨rfl, rfl⟩
theorem awake4 (m : Bool) (h : Hp) : CallsV Tryz.prog m 4 [] h (fun r h' => Sub h h' ∧ r = .bool true) := by
  refine fnc Tryz.func4 ⟨rfl, by simp [wfL, AV.wf]⟩ rfl ?_
  conv => whnf
  refine ⟨by omega, ?_⟩
  conv => whnf
  intro blk1 hblk1
  conv => whnf
  refine (put10nil m _ _ _ _).E ?_
  conv => whnf
  refine (round11nil m _).E ?_
  conv => whnf
  refine (finish12nil m _).E ?_
  conv => whnf
  refine (state8nil m _).E ?_
  conv => whnf
  refine OpX.field tab_ok (v := .int .i64 0) (cs := [.int .i64 0, .int .i64 0, .sl none 0 0]) rfl rfl rfl rfl rfl (by exact rfl) rfl rfl trivial ⟨True.intro, ?_⟩
  conv => whnf
  exact ⟨sub_set' hblk1, rfl⟩
end Go.Proofs.YtfiephhdkloaeaaGreat.Ch
end
