/- A part of the proof. -/
import Derived.Test.YtfiephhdkloaeaaGreatB1
section
open Go Go.Conc Go.Proofs Go.Proofs.YtfiephhdkloaeaaGreat.Ch
set_option maxRecDepth 100000
set_option maxHeartbeats 2000000
namespace Go.Proofs.YtfiephhdkloaeaaGreat.Ch
def incr : List (List Int) → Bool
  | a :: b :: r => lessF a b && incr (b :: r)
  | _ => true
def epOK (newest span : Int) (prev : Option Int) (e : Ep) : Bool :=
  !decide (e.num < 0) && !decide (newest < e.num) && !decide (e.num ≤ newest - span) && !decide ((e.tags.length : Int) = 0) && (prev.all fun p => !decide (e.num ≤ p)) && incr e.tags
def epsOK (newest span : Int) : Option Int → List Ep → Bool
  | _, [] => true
  | prev, e :: es => epOK newest span prev e && epsOK newest span (some e.num) es
def check16 (w : Win) (span room : Int) : Int :=
  if span < 1 then 2 else if 8 < span then 2 else if room < 0 then 2 else if 4096 < room then 2 else if w.newest < 0 then 2 else if 4611686018427387904 < w.newest then 2 else if room < (tot w.es : Int) then 2
  else if epsOK w.newest span none w.es = true then (if (sortedF (allF w.es)).length = tot w.es then 0 else 2) else 2

theorem Own.le {h0 h : Hp} {a : Option Addr} {cap len el sz : Nat} {xs : List Value} (ho : Own h0 h (.sl a len cap) len el sz xs) : len ≤ cap := by
  obtain ⟨_, a', c', e1, q⟩ := ho
  cases e1
  rcases q with ⟨_, h1, h2⟩ | ⟨_, _, _, _, _, _, h1⟩
  · omega
  · exact h1
def prevOf (es : List Ep) : Nat → Option Int
  | 0 => none
  | k + 1 => (es[k]?).map (·.num)

theorem check17 (m : Bool) (w : Win) (span room : Int) (h : Hp) (hE : EpsAt h w.ea w.es) (ht : tot w.es ≤ 2 ^ 20) (hl : w.es.length ≤ 2 ^ 20) :
    CallsV Tryz.prog m 17 [winA w, .int .i64 span, .int .i64 room] h (fun r h' => Sub h h' ∧ r = .int .i64 (check16 w span room)) := by
  refine fnc Tryz.func17 ⟨rfl, by simp [wfL, AV.wf, winA]⟩ rfl ?_
  have leaf : ∀ v, v = check16 w span room → RetE (fun r h' => Sub h h' ∧ r = .int .i64 (check16 w span room)) (.int .i64 v) h := fun v hv => ⟨⟨fun _ _ h => h, by rw [hv]⟩⟩
  unfold winA
  conv => whnf
  refine br (fun q1 => ?_) (fun q1 => ?_)
  · conv => whnf
    exact leaf _ (by rw [check16, if_pos (of_decide_eq_true q1)])
  have q1 := of_decide_eq_false q1
  conv => whnf
  refine br (fun q2 => ?_) (fun q2 => ?_)
  · conv => whnf
    exact leaf _ (by rw [check16, if_neg q1, if_pos (of_decide_eq_true q2)])
  have q2 := of_decide_eq_false q2
  conv => whnf
  refine br (fun q3 => ?_) (fun q3 => ?_)
  · conv => whnf
    exact leaf _ (by rw [check16, if_neg q1, if_neg q2, if_pos (of_decide_eq_true q3)])
  have q3 := of_decide_eq_false q3
  conv => whnf
  refine br (fun q4 => ?_) (fun q4 => ?_)
  · conv => whnf
    exact leaf _ (by rw [check16, if_neg q1, if_neg q2, if_neg q3, if_pos (of_decide_eq_true q4)])
  have q4 := of_decide_eq_false q4
  conv => whnf
  refine br (fun q5 => ?_) (fun q5 => ?_)
  · conv => whnf
    exact leaf _ (by rw [check16, if_neg q1, if_neg q2, if_neg q3, if_neg q4, if_pos (of_decide_eq_true q5)])
  have q5 := of_decide_eq_false q5
  conv => whnf
  refine br (fun q6 => ?_) (fun q6 => ?_)
  · conv => whnf
    exact leaf _ (by rw [check16, if_neg q1, if_neg q2, if_neg q3, if_neg q4, if_neg q5, if_pos (of_decide_eq_true q6)])
  have q6 := of_decide_eq_false q6
  conv => whnf
  refine (len24 m w h hE (by omega) (by omega)).E ?_
  conv => whnf
  refine br (fun q7 => ?_) (fun q7 => ?_)
  · conv => whnf
    exact leaf _ (by rw [check16, if_neg q1, if_neg q2, if_neg q3, if_neg q4, if_neg q5, if_neg q6, if_pos (of_decide_eq_true q7)])
  have q7 := of_decide_eq_false q7
  have hspec : check16 w span room = if epsOK w.newest span none w.es = true then (if (sortedF (allF w.es)).length = tot w.es then 0 else 2) else 2 := by
    rw [check16, if_neg q1, if_neg q2, if_neg q3, if_neg q4, if_neg q5, if_neg q6, if_neg q7]
  conv => whnf
  have bad : epsOK w.newest span none w.es = false → 2 = check16 w span room := fun hb => by rw [hspec, hb, if_neg (by simp)]
  refine WkE.loop (ι := Nat) (fun k => [(7, .int .i64 k), (3, .bptr 0 0 0), (1, .int .i64 span)]) 1 (fun _ => [(0, 27, [.int .i64 w.newest, .sl w.ea w.es.length w.ec])]) (fun _ => h)
    (fun k => k ≤ w.es.length ∧ epsOK w.newest span none w.es = epsOK w.newest span (prevOf w.es k) (w.es.drop k)) (fun k => w.es.length - k) 0 ⟨by omega, rfl⟩ rfl
    (by exact ⟨rfl, rfl, rfl, trivial⟩) (by exact ⟨rfl, trivial⟩) rfl rfl ?_
  intro X k ⟨hk, hinv⟩ ih
  conv => whnf
  by_cases h1 : k < w.es.length
  · refine br (fun _ => ?_) (fun q => absurd (of_decide_eq_false q) (by omega))
    obtain ⟨e, he⟩ : ∃ e, w.es[k]? = some e := ⟨_, List.getElem?_eq_getElem h1⟩
    obtain ⟨ad, hea, hc⟩ := hE.at he
    have heOK := hE.2 e (List.mem_of_getElem? he)
    have hetl : e.tags.length ≤ 2 ^ 20 := by
      have h1 := tot_take he
      have h2 := tot_take_le w.es (k + 1)
      omega
    have hdrop : w.es.drop k = e :: w.es.drop (k + 1) := by rw [List.drop_eq_getElem_cons h1, (List.getElem?_eq_some_iff.1 he).2]
    rw [hdrop] at hinv
    have bade : epOK w.newest span (prevOf w.es k) e = false → 2 = check16 w span room := fun hb => bad (by rw [hinv, epsOK, hb]; rfl)
    rw [hea] at ih ⊢
    conv => whnf
    refine ⟨⟨by omega, by omega⟩, ?_⟩
    conv => whnf
    refine LdE.agg [.int .i64 e.num, .sl e.ta e.tags.length e.tc] rfl ⟨trivial, trivial, trivial⟩ hc rfl ?_
    conv => whnf
    refine br (fun p1 => ?_) (fun p1 => ?_)
    · conv => whnf
      exact leaf _ (bade (by simp [epOK, of_decide_eq_true p1]))
    have p1 := of_decide_eq_false p1
    conv => whnf
    refine br (fun p2 => ?_) (fun p2 => ?_)
    · conv => whnf
      exact leaf _ (bade (by simp [epOK, of_decide_eq_true p2]))
    have p2 := of_decide_eq_false p2
    conv => whnf
    rw [show IntKind.i64.wrap (w.newest - span) = w.newest - span from IntWalk.i64_in _ (by omega)]
    refine br (fun p3 => ?_) (fun p3 => ?_)
    · conv => whnf
      exact leaf _ (bade (by simp [epOK, of_decide_eq_true p3]))
    have p3 := of_decide_eq_false p3
    conv => whnf
    refine br (fun p4 => ?_) (fun p4 => ?_)
    · conv => whnf
      exact leaf _ (bade (by have := of_decide_eq_true p4; have h0 : e.tags.length = 0 := by omega
                             simp [epOK, h0]))
    have p4 := of_decide_eq_false p4
    conv => whnf
    refine ⟨⟨[(0, .q), (1, .q), (2, .q), (3, .q), (4, .q), (5, .q), (6, .q), (7, .q), (8, .q), (9, .q), (10, .q), (11, .q), (12, .q), (13, .q)], [0, 1, 3, 7, 15, 7, 39, 127, 255, 511, 7, 1031, 4095, 8191], by decide +kernel, ?_⟩⟩
    conv => whnf
    have key : (prevOf w.es k).all (fun p => !decide (e.num ≤ p)) = true → incr e.tags = true → epsOK w.newest span none w.es = epsOK w.newest span (prevOf w.es (k + 1)) (w.es.drop (k + 1)) := by
      intro c1 c2
      have h0 : ¬ ((e.tags.length : Int) = 0) := p4
      rw [hinv, epsOK, epOK, c1, c2, decide_eq_false p1, decide_eq_false p2, decide_eq_false p3, decide_eq_false h0]
      simp only [prevOf, he, Option.map_some, Bool.not_false, Bool.and_self, Bool.true_and]
    have badp : (prevOf w.es k).all (fun p => !decide (e.num ≤ p)) = false → 2 = check16 w span room := fun hb => bade (by rw [epOK, hb]; simp)
    have badi : incr e.tags = false → 2 = check16 w span room := fun hb => bade (by rw [epOK, hb]; simp)
    have two : ∀ {p q : Prop} {b : Bool}, (b = true → p) → (b = false → q) → brc b p q := fun h1 h2 => br h1 h2
    by_cases hk0 : 0 < k
    · refine br (fun _ => ?_) (fun q => absurd (of_decide_eq_false q) (by omega))
      obtain ⟨e', he'⟩ : ∃ e', w.es[k - 1]? = some e' := ⟨_, List.getElem?_eq_getElem (by omega)⟩
      obtain ⟨ad', hea', hc'⟩ := hE.at he'
      rw [hea] at hea'; cases hea'
      have hprev : prevOf w.es k = some e'.num := by
        obtain ⟨k', rfl⟩ : ∃ k', k = k' + 1 := ⟨k - 1, by omega⟩
        simp only [Nat.add_sub_cancel] at he'
        simp only [prevOf, he', Option.map_some]
      conv => whnf
      rw [show IntKind.i64.wrap ((k : Int) - 1) = ((k - 1 : Nat) : Int) from by rw [IntWalk.i64_in _ (by omega)]; omega]
      refine ⟨⟨by omega, by omega⟩, ?_⟩
      conv => whnf
      refine LdE.one (.int .i64 e'.num) rfl rfl trivial (by exact EpOK.num hc') ?_
      conv => whnf
      refine br (fun p5 => ?_) (fun p5 => ?_)
      · conv => whnf
        exact leaf _ (badp (by rw [hprev]; simp [of_decide_eq_true p5]))
      have p5 := of_decide_eq_false p5
      conv => whnf
      refine WkE.loop (ι := Nat) (fun j => [(9, .int .i64 j), (8, .bptr 1 0 0), (7, .int .i64 k), (3, .bptr 0 0 0), (1, .int .i64 span)]) 2 (fun _ => [(0, 27, [.int .i64 w.newest, .sl (some ad) w.es.length w.ec]), (1, 57, [.int .i64 e.num, .sl e.ta e.tags.length e.tc])]) (fun _ => h)
        (fun j => 1 ≤ j ∧ j ≤ e.tags.length ∧ incr e.tags = incr (e.tags.drop (j - 1))) (fun j => e.tags.length - j) 1 ⟨by omega, by omega, rfl⟩ rfl
        (by exact ⟨rfl, rfl, rfl, rfl, rfl, trivial⟩) (by exact ⟨rfl, rfl, trivial⟩) rfl rfl ?_
      intro Y j ⟨hj1, hj2, hincr⟩ ih2
      conv => whnf
      by_cases hjl : j < e.tags.length
      · refine br (fun _ => ?_) (fun q => absurd (of_decide_eq_false q) (by omega))
        obtain ⟨t1, ht1⟩ : ∃ t, e.tags[j - 1]? = some t := ⟨_, List.getElem?_eq_getElem (by omega)⟩
        obtain ⟨t2, ht2⟩ : ∃ t, e.tags[j]? = some t := ⟨_, List.getElem?_eq_getElem hjl⟩
        obtain ⟨tad, hta, hc1⟩ := heOK.at ht1
        obtain ⟨tad', hta', hc2⟩ := heOK.at ht2
        rw [hta] at hta'; cases hta'
        have l1 := heOK.2 t1 (List.mem_of_getElem? ht1)
        have l2 := heOK.2 t2 (List.mem_of_getElem? ht2)
        have hd1 : e.tags.drop (j - 1) = t1 :: e.tags.drop j := by
          rw [List.drop_eq_getElem_cons (by omega), (List.getElem?_eq_some_iff.1 ht1).2, show j - 1 + 1 = j from by omega]
        have hd2 : e.tags.drop j = t2 :: e.tags.drop (j + 1) := by
          rw [List.drop_eq_getElem_cons hjl, (List.getElem?_eq_some_iff.1 ht2).2]
        have hi2 : incr e.tags = (lessF t1 t2 && incr (e.tags.drop j)) := by rw [hincr, hd1, hd2]; rfl
        rw [hta] at ih2 ⊢
        conv => whnf
        refine ⟨⟨[(0, .q), (1, .q), (2, .q), (3, .q), (4, .q), (5, .q), (6, .q), (7, .q), (8, .q), (9, .q), (10, .q), (11, .g), (12, .q)], [0, 1, 0, 4, 15, 31, 0, 64, 0, 448, 960, 2047, 4095], by decide +kernel, ?_⟩⟩
        conv => whnf
        rw [show IntKind.i64.wrap ((j : Int) - 1) = ((j - 1 : Nat) : Int) from by rw [IntWalk.i64_in _ (by omega)]; omega]
        refine ⟨⟨by omega, by omega⟩, ?_⟩
        conv => whnf
        refine LdE.run t1 l1 (by exact hc1) ?_
        conv => whnf
        refine ⟨⟨by omega, by omega⟩, ?_⟩
        conv => whnf
        refine LdE.run t2 l2 (by exact hc2) ?_
        conv => whnf
        refine (less25 m t1 t2 h l1 l2).B (fun hls => ?_) (fun hls => ?_)
        · conv => whnf
          rw [show IntKind.i64.wrap ((j : Int) + 1) = ((j + 1 : Nat) : Int) from by rw [IntWalk.i64_in _ (by omega)]; omega]
          have := ih2 (j + 1) ⟨by omega, by omega, by rw [hi2, hls]; simp⟩ (by omega)
          refine WkE.next _ 2 _ ?_ ?_ ?_ ?_ this
          · exact ⟨rfl, rfl, rfl, rfl, rfl, trivial⟩
          · exact ⟨rfl, rfl, trivial⟩
          · rfl
          · rfl
        · conv => whnf
          exact leaf _ (badi (by rw [hi2, hls]; rfl))
      · refine br (fun q => absurd (of_decide_eq_true q) (by omega)) (fun _ => ?_)
        have hjl' : j = e.tags.length := by omega
        have hin : incr e.tags = true := by
          rw [hincr, hjl']
          have hlen1 : (e.tags.drop (e.tags.length - 1)).length = 1 := by rw [List.length_drop]; omega
          match e.tags.drop (e.tags.length - 1), hlen1 with
          | [z], _ => rfl
        conv => whnf
        rw [show IntKind.i64.wrap ((k : Int) + 1) = ((k + 1 : Nat) : Int) from by rw [IntWalk.i64_in _ (by omega)]; omega]
        have := ih (k + 1) ⟨by omega, key (by rw [hprev]; simp; omega) hin⟩ (by omega)
        refine WkE.next _ 1 _ ?_ ?_ ?_ ?_ this
        · exact ⟨rfl, rfl, rfl, trivial⟩
        · exact ⟨rfl, trivial⟩
        · rfl
        · rfl
    · refine br (fun q => absurd (of_decide_eq_true q) (by omega)) (fun _ => ?_)
      conv => whnf
      refine WkE.loop (ι := Nat) (fun j => [(9, .int .i64 j), (8, .bptr 1 0 0), (7, .int .i64 k), (3, .bptr 0 0 0), (1, .int .i64 span)]) 2 (fun _ => [(0, 27, [.int .i64 w.newest, .sl (some ad) w.es.length w.ec]), (1, 57, [.int .i64 e.num, .sl e.ta e.tags.length e.tc])]) (fun _ => h)
        (fun j => 1 ≤ j ∧ j ≤ e.tags.length ∧ incr e.tags = incr (e.tags.drop (j - 1))) (fun j => e.tags.length - j) 1 ⟨by omega, by omega, rfl⟩ rfl
        (by exact ⟨rfl, rfl, rfl, rfl, rfl, trivial⟩) (by exact ⟨rfl, rfl, trivial⟩) rfl rfl ?_
      intro Y j ⟨hj1, hj2, hincr⟩ ih2
      conv => whnf
      by_cases hjl : j < e.tags.length
      · refine br (fun _ => ?_) (fun q => absurd (of_decide_eq_false q) (by omega))
        obtain ⟨t1, ht1⟩ : ∃ t, e.tags[j - 1]? = some t := ⟨_, List.getElem?_eq_getElem (by omega)⟩
        obtain ⟨t2, ht2⟩ : ∃ t, e.tags[j]? = some t := ⟨_, List.getElem?_eq_getElem hjl⟩
        obtain ⟨tad, hta, hc1⟩ := heOK.at ht1
        obtain ⟨tad', hta', hc2⟩ := heOK.at ht2
        rw [hta] at hta'; cases hta'
        have l1 := heOK.2 t1 (List.mem_of_getElem? ht1)
        have l2 := heOK.2 t2 (List.mem_of_getElem? ht2)
        have hd1 : e.tags.drop (j - 1) = t1 :: e.tags.drop j := by
          rw [List.drop_eq_getElem_cons (by omega), (List.getElem?_eq_some_iff.1 ht1).2, show j - 1 + 1 = j from by omega]
        have hd2 : e.tags.drop j = t2 :: e.tags.drop (j + 1) := by
          rw [List.drop_eq_getElem_cons hjl, (List.getElem?_eq_some_iff.1 ht2).2]
        have hi2 : incr e.tags = (lessF t1 t2 && incr (e.tags.drop j)) := by rw [hincr, hd1, hd2]; rfl
        rw [hta] at ih2 ⊢
        conv => whnf
        refine ⟨⟨[(0, .q), (1, .q), (2, .q), (3, .q), (4, .q), (5, .q), (6, .q), (7, .q), (8, .q), (9, .q), (10, .q), (11, .g), (12, .q)], [0, 1, 0, 4, 15, 31, 0, 64, 0, 448, 960, 2047, 4095], by decide +kernel, ?_⟩⟩
        conv => whnf
        rw [show IntKind.i64.wrap ((j : Int) - 1) = ((j - 1 : Nat) : Int) from by rw [IntWalk.i64_in _ (by omega)]; omega]
        refine ⟨⟨by omega, by omega⟩, ?_⟩
        conv => whnf
        refine LdE.run t1 l1 (by exact hc1) ?_
        conv => whnf
        refine ⟨⟨by omega, by omega⟩, ?_⟩
        conv => whnf
        refine LdE.run t2 l2 (by exact hc2) ?_
        conv => whnf
        refine (less25 m t1 t2 h l1 l2).B (fun hls => ?_) (fun hls => ?_)
        · conv => whnf
          rw [show IntKind.i64.wrap ((j : Int) + 1) = ((j + 1 : Nat) : Int) from by rw [IntWalk.i64_in _ (by omega)]; omega]
          have := ih2 (j + 1) ⟨by omega, by omega, by rw [hi2, hls]; simp⟩ (by omega)
          refine WkE.next _ 2 _ ?_ ?_ ?_ ?_ this
          · exact ⟨rfl, rfl, rfl, rfl, rfl, trivial⟩
          · exact ⟨rfl, rfl, trivial⟩
          · rfl
          · rfl
        · conv => whnf
          exact leaf _ (badi (by rw [hi2, hls]; rfl))
      · refine br (fun q => absurd (of_decide_eq_true q) (by omega)) (fun _ => ?_)
        have hjl' : j = e.tags.length := by omega
        have hin : incr e.tags = true := by
          rw [hincr, hjl']
          have hlen1 : (e.tags.drop (e.tags.length - 1)).length = 1 := by rw [List.length_drop]; omega
          match e.tags.drop (e.tags.length - 1), hlen1 with
          | [z], _ => rfl
        conv => whnf
        rw [show IntKind.i64.wrap ((k : Int) + 1) = ((k + 1 : Nat) : Int) from by rw [IntWalk.i64_in _ (by omega)]; omega]
        have := ih (k + 1) ⟨by omega, key (by have h00 : k = 0 := (by omega); subst h00; rfl) hin⟩ (by omega)
        refine WkE.next _ 1 _ ?_ ?_ ?_ ?_ this
        · exact ⟨rfl, rfl, rfl, trivial⟩
        · exact ⟨rfl, trivial⟩
        · rfl
        · rfl
  · refine br (fun q => absurd (of_decide_eq_true q) (by omega)) (fun _ => ?_)
    have : k = w.es.length := by omega
    subst this
    rw [List.drop_of_length_le (Nat.le_refl _)] at hinv
    have hok : epsOK w.newest span none w.es = true := by rw [hinv]; cases prevOf w.es w.es.length <;> rfl
    conv => whnf
    refine ⟨⟨[(0, .q), (4, .q), (1, .g), (2, .g), (3, .q), (5, .g), (6, .q)], [0, 1, 3, 7, 0, 23, 63], by decide +kernel, ?_⟩⟩
    conv => whnf
    refine CallE.of (all27 m w h hE ht hl) ?_
    rintro r h1' _ _ ⟨s1, o1⟩
    obtain ⟨a1, c1, rfl⟩ : ∃ a c, r = .sl a (allF w.es).length c := ⟨_, _, o1.2.choose_spec.choose_spec.1⟩
    refine ⟨True.intro, ?_⟩
    conv => whnf
    have htl := allF_len w.es
    refine CallE.of (sorted26 m (allF w.es).length a1 c1 (allF w.es) h1' _ rfl (Nat.le_refl _) (by omega) o1.le (allF_16 hE) (o1.slAt rfl)) ?_
    rintro r h2' _ _ ⟨s2, o2⟩
    obtain ⟨a2, c2, rfl⟩ : ∃ a c, r = .sl a (sortedF (allF w.es)).length c := ⟨_, _, o2.2.choose_spec.choose_spec.1⟩
    refine ⟨True.intro, ?_⟩
    conv => whnf
    refine (len24 m w h2' ((hE.up s1).up s2) (by omega) (by omega)).E ?_
    conv => whnf
    have fin : ∀ v, v = check16 w span room → RetE (fun r h' => Sub h h' ∧ r = .int .i64 (check16 w span room)) (.int .i64 v) h2' := fun v hv => ⟨⟨fun c x hc => s2 c x (s1 c x hc), by rw [hv]⟩⟩
    refine br (fun z => ?_) (fun z => ?_)
    · have z : ¬ ((sortedF (allF w.es)).length = tot w.es) := fun e => by rw [e] at z; simp at z
      conv => whnf
      exact fin _ (by rw [hspec, if_pos hok, if_neg z])
    · have z : (sortedF (allF w.es)).length = tot w.es := by
        have z' := Bool.not_eq_false' .. ▸ z
        have := of_decide_eq_true z'
        omega
      conv => whnf
      exact fin _ (by rw [hspec, if_pos hok, if_pos z])
end Go.Proofs.YtfiephhdkloaeaaGreat.Ch
end

section
open Go Go.Conc Go.Proofs Go.Proofs.YtfiephhdkloaeaaGreat.Ch
set_option maxRecDepth 100000
set_option maxHeartbeats 2000000
namespace Go.Proofs.YtfiephhdkloaeaaGreat.Ch
def within (n lo hi : Int) : Bool := decide (lo ≤ n) && decide (n ≤ hi)
theorem within28 (m : Bool) (n lo hi : Int) (h : Hp) : An m 28 [.int .i64 n, .int .i64 lo, .int .i64 hi] h (.bool (within n lo hi)) := by
  refine fnc Tryz.func28 ⟨rfl, by simp [wfL, AV.wf]⟩ rfl ?_
  repeat' ((conv => whnf) <;> refine br (fun _ => ?_) (fun _ => ?_))
  all_goals (conv => whnf)
  all_goals (refine ⟨?_, rfl⟩; simp [within, *])
theorem within23 (m : Bool) (n lo hi : Int) (h : Hp) : An m 23 [.int .i64 n, .int .i64 lo, .int .i64 hi] h (.bool (within n lo hi)) := by
  refine fnc Tryz.func23 ⟨rfl, by simp [wfL, AV.wf]⟩ rfl ?_
  repeat' ((conv => whnf) <;> refine br (fun _ => ?_) (fun _ => ?_))
  all_goals (conv => whnf)
  all_goals (refine ⟨?_, rfl⟩; simp [within, *])

structure Cfg where
  ma : Option Addr
  ml : Nat
  mc : Nat
  left : Int
  span : Int
  room : Int
  num : Int
  den : Int
  noise : Int
  chunks : Int
  workers : Int
  cap : Int
  shards : Int
def Cfg.av (c : Cfg) : AV := .agg [.sl c.ma c.ml c.mc, .int .i64 c.left, .int .i64 c.span, .int .i64 c.room, .int .i64 c.num, .int .i64 c.den, .int .i64 c.noise, .int .i64 c.chunks, .int .i64 c.workers, .int .i64 c.cap, .int .i64 c.shards]
def Cfg.right (c : Cfg) : Bool := decide ((c.ml : Int) = 32) && within c.left 1 8 && within c.span 1 8 && within c.room 0 4096 && within c.den 1 1000 && within c.num 0 c.den && within c.noise 0 16 && within c.chunks 1 64 && within c.workers 1 64 && within c.cap 0 1024 && within c.shards 1 64
theorem right19 (m : Bool) (c : Cfg) (h : Hp) : An m 19 [c.av] h (.bool c.right) := by
  refine fnc Tryz.func19 ⟨rfl, by simp [wfL, AV.wf, Cfg.av]⟩ rfl ?_
  unfold Cfg.av
  repeat' ((conv => whnf) <;> first | refine br (fun _ => ?_) (fun _ => ?_) | refine (within28 m _ _ _ _).B (fun _ => ?_) (fun _ => ?_))
  all_goals (conv => whnf)
  all_goals (refine ⟨?_, rfl⟩)
  all_goals simp [Cfg.right, *]
theorem right16 (m : Bool) (c : Cfg) (h : Hp) : An m 16 [c.av] h (.bool c.right) := by
  refine fnc Tryz.func16 ⟨rfl, by simp [wfL, AV.wf, Cfg.av]⟩ rfl ?_
  unfold Cfg.av
  repeat' ((conv => whnf) <;> first | refine br (fun _ => ?_) (fun _ => ?_) | refine (within23 m _ _ _ _).B (fun _ => ?_) (fun _ => ?_))
  all_goals (conv => whnf)
  all_goals (refine ⟨?_, rfl⟩)
  all_goals simp [Cfg.right, *]
theorem kept31 (m : Bool) (a b c : Int) (h : Hp) : An m 31 [.int .i64 a, .int .i64 b, .int .i64 c] h (.bool (decide (a ≤ b) && decide (IntKind.i64.wrap (b - a) < c))) := by
  refine fnc Tryz.func31 ⟨rfl, by simp [wfL, AV.wf]⟩ rfl ?_
  repeat' ((conv => whnf) <;> refine br (fun _ => ?_) (fun _ => ?_))
  all_goals (conv => whnf)
  all_goals (refine ⟨?_, rfl⟩; simp [*])

structure St where
  next : Int
  win : Win
def St.av (s : St) : AV := .agg [.int .i64 s.next, .int .i64 s.win.newest, .sl s.win.ea s.win.es.length s.win.ec]
def check21 (c : Cfg) (s : St) : Int := if c.right = true ∧ ¬ s.next < 0 ∧ ¬ 4611686018427387904 < s.next ∧ check16 s.win c.span c.room = 0 then 0 else 210
theorem check6 (m : Bool) (c : Cfg) (s : St) (h : Hp) (hE : EpsAt h s.win.ea s.win.es) (ht : tot s.win.es ≤ 2 ^ 20) (hl : s.win.es.length ≤ 2 ^ 20) :
    CallsV Tryz.prog m 6 [c.av, s.av] h (fun r h' => Sub h h' ∧ r = .int .i64 (check21 c s)) := by
  refine fnc Tryz.func6 ⟨rfl, by simp [wfL, AV.wf, Cfg.av, St.av]⟩ rfl ?_
  unfold Cfg.av St.av
  conv => whnf
  refine (right16 m c h).B (fun q1 => ?_) (fun q1 => ?_)
  · conv => whnf
    refine br (fun q2 => ?_) (fun q2 => ?_)
    · conv => whnf
      refine ⟨fun _ _ h => h, ?_⟩
      have := of_decide_eq_true q2
      rw [check21, if_neg (fun hh => hh.2.1 this)]
    · conv => whnf
      refine br (fun q3 => ?_) (fun q3 => ?_)
      · conv => whnf
        refine ⟨fun _ _ h => h, ?_⟩
        have := of_decide_eq_true q3
        rw [check21, if_neg (fun hh => hh.2.2.1 this)]
      · conv => whnf
        refine CallE.of (check17 m s.win c.span c.room h hE ht hl) ?_
        rintro r h' _ _ ⟨s1, rfl⟩
        refine ⟨True.intro, ?_⟩
        conv => whnf
        refine br (fun q4 => ?_) (fun q4 => ?_)
        · have q4 : ¬ check16 s.win c.span c.room = 0 := fun e => by rw [e] at q4; simp at q4
          conv => whnf
          exact ⟨s1, by rw [check21, if_neg (fun hh => q4 hh.2.2.2)]⟩
        · have q4 : check16 s.win c.span c.room = 0 := by simpa using q4
          conv => whnf
          exact ⟨s1, by rw [check21, if_pos ⟨q1, of_decide_eq_false q2, of_decide_eq_false q3, q4⟩]⟩
  · conv => whnf
    refine ⟨fun _ _ h => h, ?_⟩
    rw [check21, if_neg (fun hh => by rw [q1] at hh; exact absurd hh.1 (by simp))]
end Go.Proofs.YtfiephhdkloaeaaGreat.Ch
end

section
open Go Go.Conc Go.Proofs Go.Proofs.YtfiephhdkloaeaaGreat.Ch
set_option maxRecDepth 100000
set_option maxHeartbeats 2000000
namespace Go.Proofs.YtfiephhdkloaeaaGreat.Ch
theorem take_eq_of {a b : List (List Int)} {k : Nat} {x y : List Int} (h : a.take k = b.take k) (ha : a[k]? = some x) (hb : b[k]? = some y) (hxy : x = y) : a.take (k + 1) = b.take (k + 1) := by
  rw [List.take_add_one, List.take_add_one, h, ha, hb, hxy]
def sameEp (a b : Ep) : Bool := decide (a.num = b.num) && decide (a.tags = b.tags)
theorem sameEpoch18 (m : Bool) (a b : Ep) (h : Hp) (hA : EpOK h a) (hB : EpOK h b) (hl : a.tags.length ≤ 2 ^ 20) : An m 18 [epA a, epA b] h (.bool (sameEp a b)) := by
  refine fnc Tryz.func18 ⟨rfl, by simp [wfL, AV.wf, epA]⟩ rfl ?_
  unfold epA
  conv => whnf
  refine br (fun q1 => ?_) (fun q1 => ?_)
  · have q1 : ¬ a.num = b.num := by simpa using q1
    conv => whnf
    exact ⟨by simp [sameEp, q1], rfl⟩
  have q1 : a.num = b.num := by simpa using q1
  conv => whnf
  refine br (fun q2 => ?_) (fun q2 => ?_)
  · have q2 : ¬ a.tags.length = b.tags.length := fun e => by rw [e] at q2; simp at q2
    have q2' : ¬ a.tags = b.tags := fun e => q2 (by rw [e])
    conv => whnf
    exact ⟨by simp [sameEp, q2'], rfl⟩
  have q2 : a.tags.length = b.tags.length := by
    have q2 := Bool.not_eq_false' .. ▸ q2
    have := of_decide_eq_true q2
    omega
  conv => whnf
  refine WkE.loop (ι := Nat) (fun k => [(23, .int .i64 k), (22, .int .i64 a.tags.length), (2, .bptr 0 0 0), (3, .bptr 1 0 0)]) 2 (fun _ => [(0, 57, [.int .i64 a.num, .sl a.ta a.tags.length a.tc]), (1, 57, [.int .i64 b.num, .sl b.ta b.tags.length b.tc])]) (fun _ => h)
    (fun k => k ≤ a.tags.length ∧ a.tags.take k = b.tags.take k) (fun k => a.tags.length - k) 0 ⟨by omega, by simp⟩ rfl
    (by exact ⟨rfl, rfl, rfl, rfl, trivial⟩) (by exact ⟨rfl, rfl, trivial⟩) rfl rfl ?_
  intro X k ⟨hk, hinv⟩ ih
  conv => whnf
  by_cases h1 : k < a.tags.length
  · refine br (fun _ => ?_) (fun q => absurd (of_decide_eq_false q) (by omega))
    obtain ⟨x, hx⟩ : ∃ t, a.tags[k]? = some t := ⟨_, List.getElem?_eq_getElem h1⟩
    obtain ⟨y, hy⟩ : ∃ t, b.tags[k]? = some t := ⟨_, List.getElem?_eq_getElem (by omega)⟩
    obtain ⟨ad1, e1, c1⟩ := hA.at hx
    obtain ⟨ad2, e2, c2⟩ := hB.at hy
    have l1 := hA.2 x (List.mem_of_getElem? hx)
    have l2 := hB.2 y (List.mem_of_getElem? hy)
    rw [e1, e2] at ih ⊢
    conv => whnf
    refine ⟨⟨[(0, .q), (1, .q), (2, .q), (3, .q), (4, .q), (5, .q), (6, .q), (7, .q), (8, .q), (9, .q), (10, .q)], [0, 1, 0, 7, 15, 0, 32, 0, 224, 480, 1023], by decide +kernel, ?_⟩⟩
    conv => whnf
    refine ⟨⟨by omega, by omega⟩, ?_⟩
    conv => whnf
    refine LdE.run x l1 (by exact c1) ?_
    conv => whnf
    refine ⟨⟨by omega, by omega⟩, ?_⟩
    conv => whnf
    refine LdE.run y l2 (by exact c2) ?_
    conv => whnf
    by_cases hxy : x = y
    · refine ⟨.bool false, rfl, trivial, fun h => ?_, ?_⟩
      · exact neArr' tab_ok (t := 70) (k := .u8) (m := 16) (xs := x) (ys := y) (decide_eq_true hxy) rfl rfl rfl (by decide +kernel) rfl rfl l1 l2 h
      conv => whnf
      rw [show IntKind.i64.wrap ((k : Int) + 1) = ((k + 1 : Nat) : Int) from by rw [IntWalk.i64_in _ (by omega)]; omega]
      have := ih (k + 1) ⟨by omega, take_eq_of hinv hx hy hxy⟩ (by omega)
      refine WkE.next _ 2 _ ?_ ?_ ?_ ?_ this
      · exact ⟨rfl, rfl, rfl, rfl, trivial⟩
      · exact ⟨rfl, rfl, trivial⟩
      · rfl
      · rfl
    · refine ⟨.bool true, rfl, trivial, fun h => ?_, ?_⟩
      · exact neArr' tab_ok (t := 70) (k := .u8) (m := 16) (xs := x) (ys := y) (decide_eq_false hxy) rfl rfl rfl (by decide +kernel) rfl rfl l1 l2 h
      conv => whnf
      have : ¬ a.tags = b.tags := fun e => by rw [e, hy] at hx; exact hxy (Option.some.inj hx).symm
      exact ⟨by simp [sameEp, this], rfl⟩
  · refine br (fun q => absurd (of_decide_eq_true q) (by omega)) (fun _ => ?_)
    have : k = a.tags.length := by omega
    subst this
    conv => whnf
    rw [List.take_length, q2, List.take_length] at hinv
    exact ⟨by simp [sameEp, q1, hinv], rfl⟩
end Go.Proofs.YtfiephhdkloaeaaGreat.Ch
end

section
open Go Go.Conc Go.Proofs Go.Proofs.YtfiephhdkloaeaaGreat.Ch
set_option maxRecDepth 100000
set_option maxHeartbeats 2000000
namespace Go.Proofs.YtfiephhdkloaeaaGreat.Ch
def eqEps (a b : List Ep) : Prop := a.map (fun e => (e.num, e.tags)) = b.map (fun e => (e.num, e.tags))
def eqSt (a b : St) : Prop := a.next = b.next ∧ a.win.newest = b.win.newest ∧ eqEps a.win.es b.win.es
theorem eqEps_take {a b : List Ep} {k : Nat} {x y : Ep} (h : eqEps (a.take k) (b.take k)) (ha : a[k]? = some x) (hb : b[k]? = some y) (hxy : sameEp x y = true) : eqEps (a.take (k + 1)) (b.take (k + 1)) := by
  unfold eqEps at *
  simp only [sameEp, Bool.and_eq_true, decide_eq_true_eq] at hxy
  rw [List.take_add_one, List.take_add_one, List.map_append, List.map_append, h, ha, hb]
  simp [hxy.1, hxy.2]
/-- SameState answers whether the two states read alike. -/
theorem sameState7 (m : Bool) (a b : St) (h : Hp) (hA : EpsAt h a.win.ea a.win.es) (hB : EpsAt h b.win.ea b.win.es) (hl : a.win.es.length ≤ 2 ^ 20) (ht : ∀ e ∈ a.win.es, e.tags.length ≤ 2 ^ 20) :
    CallsV Tryz.prog m 7 [a.av, b.av] h (fun r h' => h' = h ∧ ∃ v, r = .bool v ∧ (v = true ↔ eqSt a b)) := by
  refine fnc Tryz.func7 ⟨rfl, by simp [wfL, AV.wf, St.av]⟩ rfl ?_
  have no : ¬ eqSt a b → RetE (fun r h' => h' = h ∧ ∃ v, r = .bool v ∧ (v = true ↔ eqSt a b)) (.bool false) h := fun hn => ⟨⟨rfl, false, rfl, by simp [hn]⟩⟩
  unfold St.av
  conv => whnf
  refine br (fun q1 => ?_) (fun q1 => ?_)
  · have q1 : ¬ a.next = b.next := by simpa using q1
    conv => whnf
    exact no fun e => q1 e.1
  have q1 : a.next = b.next := by simpa using q1
  conv => whnf
  refine br (fun q2 => ?_) (fun q2 => ?_)
  · have q2 : ¬ a.win.newest = b.win.newest := by simpa using q2
    conv => whnf
    exact no fun e => q2 e.2.1
  have q2 : a.win.newest = b.win.newest := by simpa using q2
  conv => whnf
  refine br (fun q3 => ?_) (fun q3 => ?_)
  · have q3 : ¬ a.win.es.length = b.win.es.length := fun e => by rw [e] at q3; simp at q3
    conv => whnf
    exact no fun e => q3 (by have := congrArg List.length e.2.2; simpa using this)
  have q3 : a.win.es.length = b.win.es.length := by
    have q3 := Bool.not_eq_false' .. ▸ q3
    have := of_decide_eq_true q3
    omega
  conv => whnf
  refine WkE.loop (ι := Nat) (fun k => [(35, .int .i64 k), (34, .int .i64 a.win.es.length), (2, .bptr 0 0 0), (3, .bptr 1 0 0)]) 2 (fun _ => [(0, 29, [.int .i64 a.next, .int .i64 a.win.newest, .sl a.win.ea a.win.es.length a.win.ec]), (1, 29, [.int .i64 b.next, .int .i64 b.win.newest, .sl b.win.ea b.win.es.length b.win.ec])]) (fun _ => h)
    (fun k => k ≤ a.win.es.length ∧ eqEps (a.win.es.take k) (b.win.es.take k)) (fun k => a.win.es.length - k) 0 ⟨by omega, by simp [eqEps]⟩ rfl
    (by exact ⟨rfl, rfl, rfl, rfl, trivial⟩) (by exact ⟨rfl, rfl, trivial⟩) rfl rfl ?_
  intro X k ⟨hk, hinv⟩ ih
  conv => whnf
  by_cases h1 : k < a.win.es.length
  · refine br (fun _ => ?_) (fun q => absurd (of_decide_eq_false q) (by omega))
    obtain ⟨x, hx⟩ : ∃ t, a.win.es[k]? = some t := ⟨_, List.getElem?_eq_getElem h1⟩
    obtain ⟨y, hy⟩ : ∃ t, b.win.es[k]? = some t := ⟨_, List.getElem?_eq_getElem (by omega)⟩
    obtain ⟨ad1, e1, c1⟩ := hA.at hx
    obtain ⟨ad2, e2, c2⟩ := hB.at hy
    have o1 := hA.2 x (List.mem_of_getElem? hx)
    have o2 := hB.2 y (List.mem_of_getElem? hy)
    rw [e1, e2] at ih ⊢
    conv => whnf
    refine ⟨⟨[(0, .q), (1, .q), (2, .q), (3, .q), (4, .q), (5, .q), (6, .q), (7, .q), (8, .q), (9, .q), (10, .q), (11, .q), (12, .g), (13, .q)], [0, 1, 3, 0, 15, 31, 0, 64, 192, 0, 960, 1984, 4095, 8191], by decide +kernel, ?_⟩⟩
    conv => whnf
    refine ⟨⟨by omega, by omega⟩, ?_⟩
    conv => whnf
    refine LdE.agg [.int .i64 x.num, .sl x.ta x.tags.length x.tc] rfl ⟨trivial, trivial, trivial⟩ c1 rfl ?_
    conv => whnf
    refine ⟨⟨by omega, by omega⟩, ?_⟩
    conv => whnf
    refine LdE.agg [.int .i64 y.num, .sl y.ta y.tags.length y.tc] rfl ⟨trivial, trivial, trivial⟩ c2 rfl ?_
    conv => whnf
    refine (sameEpoch18 m x y h o1 o2 (ht x (List.mem_of_getElem? hx))).B (fun hs => ?_) (fun hs => ?_)
    · conv => whnf
      rw [show IntKind.i64.wrap ((k : Int) + 1) = ((k + 1 : Nat) : Int) from by rw [IntWalk.i64_in _ (by omega)]; omega]
      have := ih (k + 1) ⟨by omega, eqEps_take hinv hx hy hs⟩ (by omega)
      refine WkE.next _ 2 _ ?_ ?_ ?_ ?_ this
      · exact ⟨rfl, rfl, rfl, rfl, trivial⟩
      · exact ⟨rfl, rfl, trivial⟩
      · rfl
      · rfl
    · conv => whnf
      refine no fun e => ?_
      have e3 := congrArg (fun l => l[k]?) e.2.2
      simp only [List.getElem?_map, hx, hy, Option.map_some, Option.some.injEq, Prod.mk.injEq] at e3
      simp [sameEp, e3.1, e3.2] at hs
  · refine br (fun q => absurd (of_decide_eq_true q) (by omega)) (fun _ => ?_)
    have : k = a.win.es.length := by omega
    subst this
    conv => whnf
    rw [List.take_length, q3, List.take_length] at hinv
    exact ⟨rfl, true, rfl, by simp [eqSt, q1, q2, hinv]⟩
end Go.Proofs.YtfiephhdkloaeaaGreat.Ch
end
