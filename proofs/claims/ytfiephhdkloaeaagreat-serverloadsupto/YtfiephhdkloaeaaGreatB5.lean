/- A part of the proof. -/
import Derived.Test.YtfiephhdkloaeaaGreatB4
import Derived.Test.YtfiephhdkloaeaaGreatA4
section
open Go Go.Conc Go.Proofs Go.Proofs.YtfiephhdkloaeaaGreat.Ch
set_option linter.unusedVariables false
namespace Go.Proofs.YtfiephhdkloaeaaGreat.Ch
/-! the order -/
theorem lessF_irr : ∀ a : List Int, lessF a a = false
  | [] => rfl
  | x :: a => by simp [lessF, lessF_irr a]
theorem lessF_trans : ∀ a b c : List Int, lessF a b = true → lessF b c = true → lessF a c = true
  | x :: a, y :: b, z :: c, h1, h2 => by
    simp only [lessF] at h1 h2 ⊢
    by_cases e1 : x = y
    · rw [if_pos e1] at h1
      by_cases e2 : y = z
      · rw [if_pos e2] at h2
        rw [if_pos (e1.trans e2)]; exact lessF_trans a b c h1 h2
      · rw [if_neg e2] at h2
        rw [if_neg (by rw [e1]; exact e2), e1]; exact h2
    · rw [if_neg e1] at h1
      have h1 := of_decide_eq_true h1
      by_cases e2 : y = z
      · rw [if_neg (by rw [← e2]; exact e1), ← e2]; exact decide_eq_true h1
      · rw [if_neg e2] at h2
        have h2 := of_decide_eq_true h2
        rw [if_neg (by omega)]; exact decide_eq_true (by omega)
  | [], _, _, h1, _ => by simp [lessF] at h1
  | _ :: _, [], _, h1, _ => by simp [lessF] at h1
  | _ :: _, _ :: _, [], _, h2 => by simp [lessF] at h2
theorem lessF_tri : ∀ a b : List Int, a.length = b.length → lessF a b = false → a ≠ b → lessF b a = true
  | [], [], _, _, hn => absurd rfl hn
  | [], _ :: _, h, _, _ => by simp at h
  | _ :: _, [], h, _, _ => by simp at h
  | x :: a, y :: b, h, h1, hn => by
    simp only [lessF] at h1 ⊢
    by_cases e : x = y
    · rw [if_pos e] at h1
      rw [if_pos e.symm]
      exact lessF_tri a b (by simpa using h) h1 (fun e2 => hn (by rw [e, e2]))
    · rw [if_neg e] at h1
      rw [if_neg (fun e2 => e e2.symm)]
      have := of_decide_eq_false h1
      exact decide_eq_true (by omega)

/-! rising rows -/
def Rise (l : List (List Int)) : Prop := l.Pairwise fun a b => lessF a b = true
theorem Rise.nodup {l : List (List Int)} (h : Rise l) : l.Nodup := h.imp fun hab e => by rw [e, lessF_irr] at hab; cases hab
def L16 (l : List (List Int)) : Prop := ∀ t ∈ l, t.length = 16

theorem rise_cons {a : List Int} {l : List (List Int)} (hl : ∀ t ∈ l, lessF a t = true) (h : Rise l) : Rise (a :: l) := List.Pairwise.cons hl h
theorem rise_head {a b : List Int} {l : List (List Int)} (h : Rise (b :: l)) (hab : lessF a b = true) : ∀ t ∈ b :: l, lessF a t = true := by
  intro t ht
  rcases List.mem_cons.1 ht with rfl | ht
  · exact hab
  · exact lessF_trans _ _ _ hab ((List.pairwise_cons.1 h).1 t ht)
theorem merge_ok : ∀ (n : Nat) (a b : List (List Int)), a.length + b.length ≤ n → L16 a → L16 b → Rise a → Rise b → Rise (mergeF a b) ∧ ∀ t, t ∈ mergeF a b ↔ t ∈ a ∨ t ∈ b
  | n, [], [], _, _, _, _, _ => by rw [mergeF_nil]; exact ⟨List.Pairwise.nil, by simp⟩
  | 0, a :: xs, b, h, _, _, _, _ => by simp at h
  | 0, [], b :: ys, h, _, _, _, _ => by simp at h
  | n + 1, a :: xs, [], h, la, lb, ra, rb => by
    obtain ⟨h1, h2⟩ := merge_ok n xs [] (by simp at h ⊢; omega) (fun t ht => la t (List.mem_cons_of_mem _ ht)) lb (List.pairwise_cons.1 ra).2 rb
    rw [mergeF_left]
    refine ⟨rise_cons (fun t ht => ?_) h1, fun t => by simp [h2]⟩
    rcases (h2 t).1 ht with h3 | h3
    · exact (List.pairwise_cons.1 ra).1 t h3
    · cases h3
  | n + 1, [], b :: ys, h, la, lb, ra, rb => by
    obtain ⟨h1, h2⟩ := merge_ok n [] ys (by simp at h ⊢; omega) la (fun t ht => lb t (List.mem_cons_of_mem _ ht)) ra (List.pairwise_cons.1 rb).2
    rw [mergeF_right]
    refine ⟨rise_cons (fun t ht => ?_) h1, fun t => by simp [h2]⟩
    rcases (h2 t).1 ht with h3 | h3
    · cases h3
    · exact (List.pairwise_cons.1 rb).1 t h3
  | n + 1, a :: xs, b :: ys, h, la, lb, ra, rb => by
    have la' : L16 xs := fun t ht => la t (List.mem_cons_of_mem _ ht)
    have lb' : L16 ys := fun t ht => lb t (List.mem_cons_of_mem _ ht)
    have hab : a.length = b.length := by rw [la a (List.mem_cons_self ..), lb b (List.mem_cons_self ..)]
    rw [mergeF_both]
    split
    · rename_i hba
      obtain ⟨h1, h2⟩ := merge_ok n (a :: xs) ys (by simp at h ⊢; omega) la lb' ra (List.pairwise_cons.1 rb).2
      refine ⟨rise_cons (fun t ht => ?_) h1, fun t => by simp only [List.mem_cons, h2]; grind⟩
      rcases (h2 t).1 ht with h3 | h3
      · exact rise_head ra hba t h3
      · exact (List.pairwise_cons.1 rb).1 t h3
    · rename_i hba
      have hba : lessF b a = false := by simpa using hba
      split
      · rename_i e
        subst e
        obtain ⟨h1, h2⟩ := merge_ok n xs ys (by simp at h ⊢; omega) la' lb' (List.pairwise_cons.1 ra).2 (List.pairwise_cons.1 rb).2
        refine ⟨rise_cons (fun t ht => ?_) h1, fun t => by simp only [List.mem_cons, h2]; grind⟩
        rcases (h2 t).1 ht with h3 | h3
        · exact (List.pairwise_cons.1 ra).1 t h3
        · exact (List.pairwise_cons.1 rb).1 t h3
      · rename_i hne
        have hlt : lessF a b = true := lessF_tri b a hab.symm hba (fun e => hne e.symm)
        obtain ⟨h1, h2⟩ := merge_ok n xs (b :: ys) (by simp at h ⊢; omega) la' lb (List.pairwise_cons.1 ra).2 rb
        refine ⟨rise_cons (fun t ht => ?_) h1, fun t => by simp only [List.mem_cons, h2]; grind⟩
        rcases (h2 t).1 ht with h3 | h3
        · exact (List.pairwise_cons.1 ra).1 t h3
        · exact rise_head rb hlt t h3
theorem sorted_ok : ∀ (n : Nat) (l : List (List Int)), l.length ≤ n → L16 l → Rise (sortedF l) ∧ ∀ t, t ∈ sortedF l ↔ t ∈ l := by
  intro n
  induction n with
  | zero =>
    intro l h _
    have : l = [] := List.eq_nil_of_length_eq_zero (by omega)
    subst this
    rw [sortedF]; exact ⟨List.Pairwise.nil, by simp⟩
  | succ n ih =>
    intro l h hl
    rw [sortedF]
    split
    · rename_i h2
      refine ⟨?_, fun t => Iff.rfl⟩
      match l, h2 with
      | [], _ => exact List.Pairwise.nil
      | [x], _ => exact List.pairwise_singleton ..
    · have l1 : L16 (l.take (l.length / 2)) := fun t ht => hl t (List.mem_of_mem_take ht)
      have l2 : L16 (l.drop (l.length / 2)) := fun t ht => hl t (List.mem_of_mem_drop ht)
      obtain ⟨h1, h2⟩ := ih (l.take (l.length / 2)) (by rw [List.length_take]; omega) l1
      obtain ⟨h3, h4⟩ := ih (l.drop (l.length / 2)) (by rw [List.length_drop]; omega) l2
      obtain ⟨h5, h6⟩ := merge_ok _ _ _ (Nat.le_refl _) (fun t ht => l1 t ((h2 t).1 ht)) (fun t ht => l2 t ((h4 t).1 ht)) h1 h3
      refine ⟨h5, fun t => ?_⟩
      rw [h6, h2, h4, ← List.mem_append, List.take_append_drop]
/-! the set -/
theorem ins_ok {ks : List (List Int)} (h : ks.Nodup) (x : List Int) : (ins ks x).Nodup ∧ (∀ t, t ∈ ins ks x ↔ t ∈ ks ∨ t = x) := by
  unfold ins
  split
  · rename_i hm
    exact ⟨h, fun t => ⟨.inl, fun q => by rcases q with q | rfl <;> assumption⟩⟩
  · rename_i hm
    refine ⟨List.nodup_append.2 ⟨h, by simp, fun a ha b hb e => hm (by rw [List.mem_singleton.1 hb] at e; rw [← e]; exact ha)⟩, by simp⟩
theorem insAll_ok : ∀ (l ks : List (List Int)), ks.Nodup → (insAll ks l).Nodup ∧ (∀ t, t ∈ insAll ks l ↔ t ∈ ks ∨ t ∈ l)
  | [], ks, h => ⟨h, by simp [insAll]⟩
  | x :: l, ks, h => by
    obtain ⟨h1, h2⟩ := ins_ok h x
    obtain ⟨h3, h4⟩ := insAll_ok l (ins ks x) h1
    refine ⟨h3, fun t => ?_⟩
    show t ∈ insAll (ins ks x) l ↔ _
    rw [h4, h2, List.mem_cons, or_assoc]
theorem ins_len (ks : List (List Int)) (x : List Int) : (ins ks x).length ≤ ks.length + 1 ∧ ((ins ks x).length = ks.length + 1 → x ∉ ks) := by
  unfold ins
  split
  · exact ⟨by omega, fun h => by omega⟩
  · rename_i hm; exact ⟨by simp, fun _ => hm⟩
theorem insAll_len : ∀ (l ks : List (List Int)), (insAll ks l).length ≤ ks.length + l.length ∧ ((insAll ks l).length = ks.length + l.length → l.Nodup ∧ ∀ t ∈ l, t ∉ ks)
  | [], ks => ⟨Nat.le_refl _, fun _ => ⟨List.nodup_nil, fun t ht => by cases ht⟩⟩
  | x :: l, ks => by
    obtain ⟨h1, h2⟩ := ins_len ks x
    obtain ⟨h3, h4⟩ := insAll_len l (ins ks x)
    have e : insAll ks (x :: l) = insAll (ins ks x) l := rfl
    rw [e, List.length_cons]
    refine ⟨by omega, fun he => ?_⟩
    have k1 : (ins ks x).length = ks.length + 1 := by omega
    obtain ⟨k2, k3⟩ := h4 (by omega)
    have hx := h2 k1
    have hi : ins ks x = ks ++ [x] := by unfold ins; rw [if_neg hx]
    refine ⟨List.nodup_cons.2 ⟨fun hm => ?_, k2⟩, fun t ht => ?_⟩
    · exact k3 x hm (by rw [hi]; simp)
    · rcases List.mem_cons.1 ht with rfl | ht
      · exact hx
      · exact fun q => k3 t ht (by rw [hi]; simp [q])
theorem same_len {a b : List (List Int)} (ha : a.Nodup) (hb : b.Nodup) (h : ∀ t, t ∈ a ↔ t ∈ b) : a.length = b.length :=
  ((List.perm_ext_iff_of_nodup ha hb).2 h).length_eq
theorem set_len (l : List (List Int)) (hl : L16 l) : (insAll [] l).length = (sortedF l).length := by
  obtain ⟨h1, h2⟩ := insAll_ok l [] List.nodup_nil
  obtain ⟨h3, h4⟩ := sorted_ok _ l (Nat.le_refl _) hl
  exact same_len h1 h3.nodup (fun t => by rw [h2, h4]; simp)
end Go.Proofs.YtfiephhdkloaeaaGreat.Ch
end

section
open Go Go.Conc Go.Proofs Go.Proofs.YtfiephhdkloaeaaGreat.Ch
set_option linter.unusedVariables false
namespace Go.Proofs.YtfiephhdkloaeaaGreat.Ch
def IsB (l : List Int) : Prop := ∀ x ∈ l, 0 ≤ x ∧ x < 256
theorem u8_lt {x y : Int} (hx : 0 ≤ x ∧ x < 256) (hy : 0 ≤ y ∧ y < 256) : (x.toNat.toUInt8 < y.toNat.toUInt8) ↔ x < y := by
  rw [UInt8.lt_iff_toNat_lt]
  simp
  omega
theorem cmp_less : ∀ (a b : List Int), a.length = b.length → IsB a → IsB b → (cmpF a b < 0 ↔ lessF a b = true)
  | [], [], _, _, _ => by simp [cmpF, Lib.compareBytes, lessF]
  | [], _ :: _, h, _, _ => by simp at h
  | _ :: _, [], h, _, _ => by simp at h
  | x :: a, y :: b, h, ha, hb => by
    have hx := ha x (List.mem_cons_self ..)
    have hy := hb y (List.mem_cons_self ..)
    have ih := cmp_less a b (by simpa using h) (fun z hz => ha z (List.mem_cons_of_mem _ hz)) (fun z hz => hb z (List.mem_cons_of_mem _ hz))
    unfold cmpF at ih ⊢
    simp only [List.map_cons, Lib.compareBytes, lessF, u8_lt hx hy, u8_lt hy hx]
    by_cases e : x = y
    · rw [if_neg (by omega), if_neg (by omega), if_pos e]; exact ih
    · rw [if_neg e]
      by_cases h1 : x < y
      · rw [if_pos h1]; simp [h1]
      · rw [if_neg h1, if_pos (by omega)]; simp [h1]
def TagRows (es : List Ep) : Prop := ∀ e ∈ es, ∀ t ∈ e.tags, t.length = 16 ∧ IsB t
theorem incr_eq : ∀ (l : List (List Int)), (∀ t ∈ l, t.length = 16 ∧ IsB t) → l.Nodup → incr l = nondecr l
  | [], _, _ => rfl
  | [_], _, _ => rfl
  | a :: b :: r, h, hn => by
    have ha := h a (by simp)
    have hb := h b (by simp)
    obtain ⟨n1, n2⟩ := List.nodup_cons.1 hn
    have ih := incr_eq (b :: r) (fun t ht => h t (List.mem_cons_of_mem _ ht)) n2
    simp only [incr, nondecr, ih]
    congr 1
    have hc := cmp_less b a (by rw [ha.1, hb.1]) hb.2 ha.2
    cases hab : lessF a b with
    | true =>
      have : ¬ cmpF b a < 0 := fun q => by
        have := lessF_trans _ _ _ hab (hc.1 q)
        rw [lessF_irr] at this; cases this
      simp [this]
    | false =>
      have : cmpF b a < 0 := hc.2 (lessF_tri a b (by rw [ha.1, hb.1]) hab (fun e => n1 (by rw [e]; simp)))
      simp [this]
theorem incr_nondecr : ∀ (l : List (List Int)), (∀ t ∈ l, t.length = 16 ∧ IsB t) → incr l = true → nondecr l = true
  | [], _, _ => rfl
  | [_], _, _ => rfl
  | a :: b :: r, h, hi => by
    have ha := h a (by simp)
    have hb := h b (by simp)
    simp only [incr, Bool.and_eq_true] at hi
    have ih := incr_nondecr (b :: r) (fun t ht => h t (List.mem_cons_of_mem _ ht)) hi.2
    have hc := cmp_less b a (by rw [ha.1, hb.1]) hb.2 ha.2
    have : ¬ cmpF b a < 0 := fun q => by
      have := lessF_trans _ _ _ hi.1 (hc.1 q)
      rw [lessF_irr] at this; cases this
    simp [nondecr, ih, this]
theorem ep_eq (newest span : Int) (prev : Option Int) (e : Ep) (h : incr e.tags = nondecr e.tags) : epOK newest span prev e = epW newest span prev e := by
  unfold epOK epW
  rw [h]
  have h1 : (!decide (newest < e.num)) = decide (e.num ≤ newest) := by
    by_cases q : newest < e.num <;> simp [q] <;> omega
  have h2 : (!decide (e.num ≤ newest - span)) = decide (newest - e.num < span) := by
    by_cases q : newest - e.num < span
    · simp [q]; omega
    · simp [q]; omega
  rw [h1, h2]
  cases decide (e.num < 0) <;> cases decide (e.num ≤ newest) <;> cases decide (newest - e.num < span) <;> cases decide ((e.tags.length : Int) = 0) <;> cases (prev.all fun p => !decide (e.num ≤ p)) <;> rfl
theorem eps_eq (newest span : Int) : ∀ (es : List Ep) (prev : Option Int), TagRows es → (∀ e ∈ es, e.tags.Nodup) → epsOK newest span prev es = epsW newest span prev es
  | [], _, _, _ => rfl
  | e :: es, prev, h, hn => by
    simp only [epsOK, epsW]
    rw [ep_eq _ _ _ _ (incr_eq e.tags (h e (by simp)) (hn e (by simp))), eps_eq newest span es (some e.num) (fun x hx => h x (List.mem_cons_of_mem _ hx)) (fun x hx => hn x (List.mem_cons_of_mem _ hx))]
theorem nodup_parts : ∀ (es : List Ep), (allF es).Nodup → ∀ e ∈ es, e.tags.Nodup
  | [], _, e, he => by cases he
  | x :: es, h, e, he => by
    have h : (x.tags ++ allF es).Nodup := h
    obtain ⟨h1, h2, _⟩ := List.nodup_append.1 h
    rcases List.mem_cons.1 he with rfl | he
    · exact h1
    · exact nodup_parts es h2 e he
theorem check_eq (w : Win) (span room : Int) (h : TagRows w.es) : check16 w span room = checkW w span room := by
  have l16 : L16 (allF w.es) := fun t ht => by
    obtain ⟨e, he, hm⟩ := List.mem_flatMap.1 ht
    exact (h e he t hm).1
  have hlen := set_len (allF w.es) l16
  unfold check16 checkW
  rw [hlen]
  have key : (if epsOK w.newest span none w.es = true then if (sortedF (allF w.es)).length = tot w.es then (0 : Int) else 2 else 2) = if (sortedF (allF w.es)).length = tot w.es then if epsW w.newest span none w.es = true then 0 else 2 else 2 := by
    by_cases ht : (sortedF (allF w.es)).length = tot w.es
    · have hn := ((insAll_len (allF w.es) []).2 (by rw [hlen, ht, ← allF_len]; simp)).1
      rw [eps_eq _ _ w.es none h (nodup_parts w.es hn)]
      simp [ht]
    · simp [ht]
  rw [key]
theorem checks (c : Cfg) (s : St) (h : TagRows s.win.es) : check21 c s = checkR c s := by
  unfold check21 checkR
  rw [check_eq _ _ _ h]
end Go.Proofs.YtfiephhdkloaeaaGreat.Ch
end

section
open Go Go.Conc Go.Proofs Go.Proofs.YtfiephhdkloaeaaGreat.Ch
set_option maxRecDepth 100000
set_option maxHeartbeats 400000
namespace Go.Proofs.YtfiephhdkloaeaaGreat.Ch
theorem eqSt_lens {a b : St} (h : eqSt a b) : a.win.es.length = b.win.es.length ∧ ∀ n, (∀ e ∈ b.win.es, e.tags.length ≤ n) → ∀ e ∈ a.win.es, e.tags.length ≤ n := by
  have h1 := h.2.2
  unfold eqEps at h1
  refine ⟨by simpa using congrArg List.length h1, fun n hn e he => ?_⟩
  have : (e.num, e.tags) ∈ b.win.es.map (fun e => (e.num, e.tags)) := by rw [← h1]; exact List.mem_map_of_mem he
  obtain ⟨e', he', hq⟩ := List.mem_map.1 this
  have := hn e' he'
  rw [show e.tags = e'.tags from (Prod.mk.inj hq).2.symm]; exact this
theorem eqSt_trans {a b c : St} (h : eqSt a b) (k : eqSt b c) : eqSt a c := ⟨h.1.trans k.1, h.2.1.trans k.2.1, h.2.2.trans k.2.2⟩
theorem loads3 (m : Bool) (c : Cfg) (s : St) (xs : List Int) (h : Hp) (hE : EpsAt h s.win.ea s.win.es) (ht : tot s.win.es ≤ 2 ^ 20) (hl : s.win.es.length ≤ 2 ^ 20) (hte : ∀ e ∈ s.win.es, e.tags.length ≤ 2 ^ 20) (hr : TagRows s.win.es) (hm : c.ml = xs.length) (hml : xs.length ≤ 2 ^ 20) (hms : SlAt h c.ma (ints .u8 xs)) :
    CallsV Tryz.prog m 3 [c.av, s.av] h (fun r h' => Sub h h' ∧ r = .bool true) := by
  refine fnc Tryz.func3 ⟨rfl, by simp [wfL, AV.wf, Cfg.av, St.av]⟩ rfl ?_
  unfold Cfg.av St.av
  conv => whnf
  refine CallE.of (awake4 m h) ?_; rintro r h1 _ _ ⟨s1, rfl⟩; refine ⟨True.intro, ?_⟩
  conv => whnf
  refine CallE.of (load5 m c s xs h1 (hE.up s1) ht hl hte hm hml (hms.up s1)) ?_; rintro r h2 _ _ ⟨s2, hL⟩; rcases hL with ⟨z1, rfl⟩ | ⟨z1, blk, s', rfl, hc', e', E'⟩; generalize hz : checkR c s = z at z1 ⊢; all_goals refine ⟨True.intro, ?_⟩
  conv => whnf
  rotate_left
  conv => whnf
  rotate_left
  · refine CallE.of (check6 m c s h2 ((hE.up s1).up s2) ht hl) ?_; rintro r h3 _ _ ⟨s3, rfl⟩; rw [checks c s hr, hz]; refine ⟨True.intro, ?_⟩
    conv => whnf
    refine brN (fun q => absurd q (by omega)) (fun _ => ?_)
    conv => whnf
    refine brN (fun _ => ?_) (fun q => absurd q (by omega))
    conv => whnf
    refine ⟨⟨[(0, .q), (1, .q), (2, .q), (3, .q), (5, .q), (4, .g), (6, .g), (7, .q), (8, .q)], [0, 1, 3, 7, 15, 7, 63, 127, 255], by decide +kernel, ?_⟩⟩
    conv => whnf
    refine brD (fun q => absurd q (by omega)) (fun _ => ?_)
    conv => whnf
    refine CallE.of (new9 m c xs h3 hm hml (((hms.up s1).up s2).up s3)) ?_; rintro r h6 _ _ ⟨s6, hL⟩; rcases hL with ⟨z2, rfl⟩ | ⟨z2, blk2, t', rfl, hc2, e2, E2⟩; generalize hz2 : checkR c St0 = w2 at z2 ⊢; all_goals refine ⟨True.intro, ?_⟩
    conv => whnf
    refine CallE.of (check6 m c St0 h6 ⟨.inl rfl, fun e he => by cases he⟩ (by decide) (by decide)) ?_; rintro r h7 _ _ ⟨s7, rfl⟩; rw [checks c St0 (fun e he => by cases he)]; first | rw [hz2] | rw [z2]; refine ⟨True.intro, ?_⟩
    refine ⟨True.intro, ?_⟩
    conv => whnf
    refine brN (fun q => absurd q (by omega)) (fun _ => ?_)
    conv => whnf
    refine brN (fun _ => ?_) (fun q => absurd q (by omega))
    conv => whnf
    refine brN (fun _ => ?_) (fun q => absurd q (by omega))
    conv => whnf
    rotate_left
    conv => whnf
    refine CallE.of (check6 m c St0 h6 ⟨.inl rfl, fun e he => by cases he⟩ (by decide) (by decide)) ?_; rintro r h7 _ _ ⟨s7, rfl⟩; rw [checks c St0 (fun e he => by cases he)]; first | rw [hz2] | rw [z2]; refine ⟨True.intro, ?_⟩
    conv => whnf
    refine CallE.of (state8 m blk2 t' h7 (hc2.up s7) (E2.up s7) ((eqSt_lens e2).2 _ (fun e he => by cases he)) (by rw [(eqSt_lens e2).1]; decide)) ?_; rintro r h8 _ _ ⟨s8, t'', rfl, e3, E3⟩; refine ⟨True.intro, ?_⟩; unfold St.av
    conv => whnf
    refine CallE.of (sameState7 m t'' St0 h8 E3 ⟨.inl rfl, fun e he => by cases he⟩ (by rw [(eqSt_lens (eqSt_trans e3 e2)).1]; decide) ((eqSt_lens (eqSt_trans e3 e2)).2 _ (fun e he => by cases he))) ?_; rintro r h9 _ _ ⟨rfl, v, rfl, hv⟩; obtain rfl : v = true := hv.2 (eqSt_trans e3 e2); refine ⟨True.intro, ?_⟩
    conv => whnf
    rotate_left
    all_goals (refine ⟨fun b x hb => ?_, rfl⟩; first | exact s7 _ _ (s6 _ _ (s3 _ _ (s2 _ _ (s1 _ _ hb)))) | exact s8 _ _ (s7 _ _ (s6 _ _ (s3 _ _ (s2 _ _ (s1 _ _ hb))))) | exact s7 _ _ (s6 _ _ (s4 _ _ (s3 _ _ (s2 _ _ (s1 _ _ hb))))) | exact s8 _ _ (s7 _ _ (s6 _ _ (s4 _ _ (s3 _ _ (s2 _ _ (s1 _ _ hb)))))))
  · refine CallE.of (check6 m c s h2 ((hE.up s1).up s2) ht hl) ?_; rintro r h3 _ _ ⟨s3, rfl⟩; rw [checks c s hr, z1]; refine ⟨True.intro, ?_⟩
    conv => whnf
    refine ⟨⟨[(0, .q), (1, .q), (2, .q), (3, .q), (5, .q), (4, .g), (6, .g), (7, .q), (8, .q)], [0, 1, 3, 7, 15, 7, 63, 127, 255], by decide +kernel, ?_⟩⟩
    conv => whnf
    refine CallE.of (state8 m blk s' h3 (hc'.up s3) (E'.up s3) ((eqSt_lens e').2 _ hte) (by rw [(eqSt_lens e').1]; exact hl)) ?_; rintro r h4 _ _ ⟨s4, s'', rfl, e4, E4⟩; refine ⟨by first | exact True.intro | simp [pdQ, ev, lk, List.filter, Nat.testBit, KeepH], ?_⟩; unfold St.av
    conv => whnf
    refine CallE.of (sameState7 m s'' s h4 E4 ((((hE.up s1).up s2).up s3).up s4) (by rw [(eqSt_lens (eqSt_trans e4 e')).1]; exact hl) ((eqSt_lens (eqSt_trans e4 e')).2 _ hte)) ?_; rintro r h5 _ _ ⟨rfl, v, rfl, hv⟩; obtain rfl : v = true := hv.2 (eqSt_trans e4 e'); refine ⟨by first | exact True.intro | simp [pdQ, ev, lk, List.filter, Nat.testBit, KeepH], ?_⟩
    conv => whnf
    refine CallE.of (new9 m c xs h5 hm hml ((((hms.up s1).up s2).up s3).up s4)) ?_; rintro r h6 _ _ ⟨s6, hL⟩; rcases hL with ⟨z2, rfl⟩ | ⟨z2, blk2, t', rfl, hc2, e2, E2⟩; generalize hz2 : checkR c St0 = w2 at z2 ⊢; all_goals refine ⟨True.intro, ?_⟩
    conv => whnf
    refine CallE.of (check6 m c St0 h6 ⟨.inl rfl, fun e he => by cases he⟩ (by decide) (by decide)) ?_; rintro r h7 _ _ ⟨s7, rfl⟩; rw [checks c St0 (fun e he => by cases he)]; first | rw [hz2] | rw [z2]; refine ⟨True.intro, ?_⟩
    refine ⟨True.intro, ?_⟩
    conv => whnf
    refine brN (fun q => absurd q (by omega)) (fun _ => ?_)
    conv => whnf
    refine brN (fun _ => ?_) (fun q => absurd q (by omega))
    conv => whnf
    refine brN (fun _ => ?_) (fun q => absurd q (by omega))
    conv => whnf
    rotate_left
    conv => whnf
    refine CallE.of (check6 m c St0 h6 ⟨.inl rfl, fun e he => by cases he⟩ (by decide) (by decide)) ?_; rintro r h7 _ _ ⟨s7, rfl⟩; rw [checks c St0 (fun e he => by cases he)]; first | rw [hz2] | rw [z2]; refine ⟨True.intro, ?_⟩
    conv => whnf
    refine CallE.of (state8 m blk2 t' h7 (hc2.up s7) (E2.up s7) ((eqSt_lens e2).2 _ (fun e he => by cases he)) (by rw [(eqSt_lens e2).1]; decide)) ?_; rintro r h8 _ _ ⟨s8, t'', rfl, e3, E3⟩; refine ⟨True.intro, ?_⟩; unfold St.av
    conv => whnf
    refine CallE.of (sameState7 m t'' St0 h8 E3 ⟨.inl rfl, fun e he => by cases he⟩ (by rw [(eqSt_lens (eqSt_trans e3 e2)).1]; decide) ((eqSt_lens (eqSt_trans e3 e2)).2 _ (fun e he => by cases he))) ?_; rintro r h9 _ _ ⟨rfl, v, rfl, hv⟩; obtain rfl : v = true := hv.2 (eqSt_trans e3 e2); refine ⟨True.intro, ?_⟩
    conv => whnf
    rotate_left
    all_goals (refine ⟨fun b x hb => ?_, rfl⟩; first | exact s7 _ _ (s6 _ _ (s3 _ _ (s2 _ _ (s1 _ _ hb)))) | exact s8 _ _ (s7 _ _ (s6 _ _ (s3 _ _ (s2 _ _ (s1 _ _ hb))))) | exact s7 _ _ (s6 _ _ (s4 _ _ (s3 _ _ (s2 _ _ (s1 _ _ hb))))) | exact s8 _ _ (s7 _ _ (s6 _ _ (s4 _ _ (s3 _ _ (s2 _ _ (s1 _ _ hb)))))))
end Go.Proofs.YtfiephhdkloaeaaGreat.Ch
end
