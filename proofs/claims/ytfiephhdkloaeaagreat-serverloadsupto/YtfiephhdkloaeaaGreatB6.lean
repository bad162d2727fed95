/- What the law's arguments read as. -/
import Derived.Test.YtfiephhdkloaeaaGreatA5
import Derived.Test.YtfiephhdkloaeaaGreatB5
import Derived.Test.YtfiephhdkloaeaaGreatRows
import Derived.ProofKit
import Derived.OpenShut
import Derived.KernelRfl
section
set_option linter.unusedVariables false
set_option maxRecDepth 100000
namespace Go.Proofs.YtfiephhdkloaeaaGreat.Ch
open Go Go.Conc Go.ChangeShapes Go.Proofs Go.Proofs.YtfiephhdkloaeaaGreat
section
variable {H : Type} {enc : TypeId × Value → H} {w : World}

theorem one_le (d : DataW H) : 1 ≤ Rows.uptoBulk d := by
  cases d with
  | lit l => cases l <;> simp [Rows.uptoBulk]
  | nil => simp [Rows.uptoBulk]
  | ptr d => simp [Rows.uptoBulk]
  | slice elems spare => simp [Rows.uptoBulk]
  | agg parts => simp [Rows.uptoBulk]
  | iface t d => simp [Rows.uptoBulk]
  | map entries => simp [Rows.uptoBulk]
  | held h => simp [Rows.uptoBulk]
theorem part_le {d : DataW H} {l : List (DataW H)} (h : d ∈ l) : Rows.uptoBulk d ≤ Rows.uptoBulkAll l := by
  induction l with
  | nil => cases h
  | cons x r ih =>
    simp only [Rows.uptoBulkAll]
    cases List.mem_cons.1 h with
    | inl e => subst e; omega
    | inr e => have := ih e; omega
theorem length_le (l : List (DataW H)) : l.length ≤ Rows.uptoBulkAll l := by
  induction l with
  | nil => simp [Rows.uptoBulkAll]
  | cons x r ih => have := one_le x; simp only [Rows.uptoBulkAll, List.length_cons]; omega
theorem at_le {xs : List (DataW H × List MemPlace)} {i : Nat} {y : DataW H × List MemPlace} (h : xs[i]? = some y) : Rows.uptoBulk y.1 ≤ Rows.uptoBulk (.agg (xs.map (·.1))) := by
  have : y.1 ∈ xs.map (·.1) := List.mem_map_of_mem (List.mem_of_getElem? h)
  have := part_le this
  simp only [Rows.uptoBulk]; omega
theorem sum_le : ∀ (es : List Ep) (elems : List (DataW H)), es.length = elems.length → (∀ (i : Nat) z, es[i]? = some z → ∃ d, elems[i]? = some d ∧ z.tags.length ≤ Rows.uptoBulk d) → tot es ≤ Rows.uptoBulkAll elems
  | [], elems, hl, _ => by simp [tot]
  | e :: es, [], hl, _ => by simp at hl
  | e :: es, d :: elems, hl, h => by
    have ih := sum_le es elems (by simpa using hl) fun i z hz => by simpa using h (i + 1) z (by simpa using hz)
    obtain ⟨d', h1, h2⟩ := h 0 e rfl
    simp at h1; subst h1
    simp only [Rows.uptoBulkAll, tot, List.map_cons, List.sum_cons] at ih ⊢
    omega

def QTag (t : List Int) : Prop := t.length = 16 ∧ IsB t
theorem rdTags {n : Nat} {base : Nat} {sp : Nat → Bool} {held : Bool} {cs : List Value} {x : DataW H × List MemPlace} (hr : DataW.trod enc Tryz.prog w base sp held n 55 cs = some x) :
    ∃ (a : Option Addr) (cap : Nat) (ts : List (List Int)), cs = [.slice a ts.length cap] ∧ SlAt (fragOf w) a (tagsV ts) ∧ (∀ t ∈ ts, QTag t) ∧ ts.length ≤ Rows.uptoBulk x.1 := by
  obtain ⟨a, cap, ts, h1, h2, h3⟩ := rd_slice (f := ints .u8) (Q := fun t _ => QTag t) Tryz.underlying55 hr (fun m ys y hy => by
    obtain ⟨zs, z1, z2, z3⟩ := rd_arr Tryz.underlying70 Tryz.underlying5 (by kernel_rfl) (by kernel_rfl) hy
    exact ⟨zs, z1, z2, fun z hz => wf_u8 (z3 z hz)⟩)
  refine ⟨a, cap, ts, h1, h2, ?_, ?_⟩
  · intro t ht
    obtain ⟨i, hi⟩ := List.getElem?_of_mem ht
    rcases h3 with ⟨rfl, _⟩ | ⟨elems, rest, _, _, h4⟩
    · cases ht
    · obtain ⟨_, _, q⟩ := h4 i t hi; exact q
  · rcases h3 with ⟨rfl, _⟩ | ⟨elems, rest, e1, e2, h4⟩
    · simp
    · rw [e1, e2]
      have := length_le elems
      simp only [Rows.uptoBulk]; omega

def QEp (w : World) (e : Ep) (d : DataW H) : Prop := SlAt (fragOf w) e.ta (tagsV e.tags) ∧ (∀ t ∈ e.tags, QTag t) ∧ e.tags.length ≤ Rows.uptoBulk d
theorem rdEpoch {n : Nat} {base : Nat} {sp : Nat → Bool} {held : Bool} {cs : List Value} {x : DataW H × List MemPlace} (hr : DataW.trod enc Tryz.prog w base sp held n 57 cs = some x) : ∃ e : Ep, cs = epV e ∧ QEp w e x.1 := by
  obtain ⟨xs, m, h1, h2, h3, h4, h5⟩ := DataW.trod_struct Tryz.underlying57 hr
  have hl : cs.length = 2 := h3.trans (by kernel_rfl)
  have c1 : Tryz.prog.cellsOf 2 = 1 := by kernel_rfl
  have c2 : Tryz.prog.cellsOf 55 = 1 := by kernel_rfl
  have f0 : DataW.trod enc Tryz.prog w base sp held m 2 ((cs.drop 0).take (Tryz.prog.cellsOf 2)) = xs[0]? := h5 0 _ rfl
  have f1 : DataW.trod enc Tryz.prog w base sp held m 55 ((cs.drop 1).take (Tryz.prog.cellsOf 55)) = xs[1]? := h5 1 _ rfl
  rw [c1] at f0
  rw [c2] at f1
  obtain ⟨y0, hy0⟩ : ∃ y, xs[0]? = some y := ⟨_, List.getElem?_eq_getElem (by rw [h4]; decide)⟩
  obtain ⟨y1, hy1⟩ : ∃ y, xs[1]? = some y := ⟨_, List.getElem?_eq_getElem (by rw [h4]; decide)⟩
  rw [hy0] at f0
  rw [hy1] at f1
  obtain ⟨z, z1, _⟩ := rd_int Tryz.underlying2 f0
  obtain ⟨a, cap, ts, t1, t2, t3, t4⟩ := rdTags f1
  match cs, hl with
  | [v0, v1], _ =>
    simp at z1 t1
    subst z1 t1
    refine ⟨⟨z, a, cap, ts⟩, rfl, t2, t3, ?_⟩
    have := at_le hy1
    rw [h2]; exact Nat.le_trans t4 this

theorem rdState {n : Nat} {base : Nat} {sp : Nat → Bool} {held : Bool} {cs : List Value} {x : DataW H × List MemPlace} (hr : DataW.trod enc Tryz.prog w base sp held n 29 cs = some x) :
    ∃ s : St, cs = cellsL id s.av.cs ∧ EpsAt (fragOf w) s.win.ea s.win.es ∧ TagRows s.win.es ∧ tot s.win.es ≤ Rows.uptoBulk x.1 ∧ s.win.es.length ≤ Rows.uptoBulk x.1 ∧ ∀ e ∈ s.win.es, e.tags.length ≤ Rows.uptoBulk x.1 := by
  obtain ⟨xs, m, h1, h2, h3, h4, h5⟩ := DataW.trod_struct Tryz.underlying29 hr
  have hl : cs.length = 3 := h3.trans (by kernel_rfl)
  have c1 : Tryz.prog.cellsOf 2 = 1 := by kernel_rfl
  have c2 : Tryz.prog.cellsOf 27 = 2 := by kernel_rfl
  have c3 : Tryz.prog.cellsOf 25 = 1 := by kernel_rfl
  have f0 : DataW.trod enc Tryz.prog w base sp held m 2 ((cs.drop 0).take (Tryz.prog.cellsOf 2)) = xs[0]? := h5 0 _ rfl
  have f1 : DataW.trod enc Tryz.prog w base sp held m 27 ((cs.drop 1).take (Tryz.prog.cellsOf 27)) = xs[1]? := h5 1 _ rfl
  rw [c1] at f0
  rw [c2] at f1
  obtain ⟨y0, hy0⟩ : ∃ y, xs[0]? = some y := ⟨_, List.getElem?_eq_getElem (by rw [h4]; decide)⟩
  obtain ⟨y1, hy1⟩ : ∃ y, xs[1]? = some y := ⟨_, List.getElem?_eq_getElem (by rw [h4]; decide)⟩
  rw [hy0] at f0
  rw [hy1] at f1
  obtain ⟨z, z1, _⟩ := rd_int Tryz.underlying2 f0
  obtain ⟨xs', m', g1, g2, g3, g4, g5⟩ := DataW.trod_struct Tryz.underlying27 f1
  have k0 : DataW.trod enc Tryz.prog w base sp held m' 2 ((((cs.drop 1).take 2).drop 0).take (Tryz.prog.cellsOf 2)) = xs'[0]? := g5 0 _ rfl
  have k1 : DataW.trod enc Tryz.prog w base sp held m' 25 ((((cs.drop 1).take 2).drop 1).take (Tryz.prog.cellsOf 25)) = xs'[1]? := g5 1 _ rfl
  rw [c1] at k0
  rw [c3] at k1
  obtain ⟨u0, hu0⟩ : ∃ y, xs'[0]? = some y := ⟨_, List.getElem?_eq_getElem (by rw [g4]; decide)⟩
  obtain ⟨u1, hu1⟩ : ∃ y, xs'[1]? = some y := ⟨_, List.getElem?_eq_getElem (by rw [g4]; decide)⟩
  rw [hu0] at k0
  rw [hu1] at k1
  obtain ⟨zn, n1, _⟩ := rd_int Tryz.underlying2 k0
  obtain ⟨a, cap, es, t1, t2, t3⟩ := rd_slice (f := epV) (Q := QEp w) Tryz.underlying25 k1 (fun m ys y hy => rdEpoch hy)
  have b1 := at_le hy1
  have b2 := at_le hu1
  match cs, hl with
  | [v0, v1, v2], _ =>
    simp at z1 n1 t1
    subst z1 n1 t1
    have hx : Rows.uptoBulk y1.1 ≤ Rows.uptoBulk x.1 := by rw [h2]; exact b1
    have hy : Rows.uptoBulk u1.1 ≤ Rows.uptoBulk y1.1 := by rw [g2]; exact b2
    have hq : ∀ e ∈ es, ∃ d : DataW H, QEp w e d ∧ Rows.uptoBulk d ≤ Rows.uptoBulk u1.1 := by
      intro e he
      obtain ⟨i, hi⟩ := List.getElem?_of_mem he
      rcases t3 with ⟨rfl, _⟩ | ⟨elems, rest, e1, _, h4⟩
      · cases he
      · obtain ⟨d, hd, q⟩ := h4 i e hi
        refine ⟨d, q, ?_⟩
        have := part_le (List.mem_of_getElem? hd)
        rw [e1]; simp only [Rows.uptoBulk]; omega
    refine ⟨⟨z, ⟨zn, a, cap, es⟩⟩, rfl, ⟨t2, fun e he => ?_⟩, fun e he t ht => ?_, ?_, ?_, fun e he => ?_⟩
    · obtain ⟨d, q, _⟩ := hq e he
      exact ⟨q.1, fun t ht => (q.2.1 t ht).1⟩
    · obtain ⟨d, q, _⟩ := hq e he
      exact q.2.1 t ht
    · refine Nat.le_trans ?_ (Nat.le_trans hy hx)
      rcases t3 with ⟨rfl, _⟩ | ⟨elems, rest, e1, e2, h4⟩
      · simp [tot]
      · have := sum_le es elems e2 fun i z hz => by
          obtain ⟨d, hd, q⟩ := h4 i z hz
          exact ⟨d, hd, q.2.2⟩
        rw [e1]; simp only [Rows.uptoBulk]; omega
    · refine Nat.le_trans ?_ (Nat.le_trans hy hx)
      rcases t3 with ⟨rfl, _⟩ | ⟨elems, rest, e1, e2, h4⟩
      · simp
      · have := length_le elems
        show es.length ≤ _
        rw [e1, e2]; simp only [Rows.uptoBulk]; omega
    · obtain ⟨d, q, hd⟩ := hq e he
      exact Nat.le_trans q.2.2 (Nat.le_trans hd (Nat.le_trans hy hx))
end
end Go.Proofs.YtfiephhdkloaeaaGreat.Ch
end

section
set_option maxRecDepth 100000
set_option linter.unusedVariables false
namespace Go.Proofs.YtfiephhdkloaeaaGreat.Ch
open Go Go.Conc Go.ChangeShapes Go.Proofs Go.Proofs.YtfiephhdkloaeaaGreat
section
variable {H : Type} {enc : TypeId × Value → H} {w : World}
theorem flat_ints (k : IntKind) : ∀ xs : List Int, xs.flatMap (fun z : Int => [Value.int k z]) = ints k xs
  | [] => rfl
  | x :: xs => by rw [List.flatMap_cons, flat_ints k xs]; rfl
theorem agg_of_cells {v : Value} {l : List Value} (h : v.cells.toList = l) (hl : l.length ≠ 1) : v = .agg l.toArray := by
  cases v <;> simp only [Value.cells] at h <;> first | (exfalso; apply hl; rw [← h]; rfl) | (rw [← h])
theorem rdConfig {n : Nat} {base : Nat} {sp : Nat → Bool} {held : Bool} {cs : List Value} {x : DataW H × List MemPlace} (hr : DataW.trod enc Tryz.prog w base sp held n 24 cs = some x) :
    ∃ (c : Cfg) (xs : List Int), cs = cellsL id c.av.cs ∧ c.ml = xs.length ∧ SlAt (fragOf w) c.ma (ints .u8 xs) ∧ xs.length ≤ Rows.uptoBulk x.1 := by
  obtain ⟨ys, m, h1, h2, h3, h4, h5⟩ := DataW.trod_struct Tryz.underlying24 hr
  have hl : cs.length = 11 := h3.trans (by kernel_rfl)
  have c1 : Tryz.prog.cellsOf 22 = 1 := by kernel_rfl
  have c3 : Tryz.prog.cellsOf 3 = 1 := by kernel_rfl
  have f0 : DataW.trod enc Tryz.prog w base sp held m 22 ((cs.drop 0).take (Tryz.prog.cellsOf 22)) = ys[0]? := h5 0 _ rfl
  rw [c1] at f0
  have fi : ∀ i, 1 ≤ i → i < 11 → ∃ z : Int, (cs.drop i).take 1 = [.int .i64 z] := by
    intro i hi1 hi2
    have f : DataW.trod enc Tryz.prog w base sp held m 3 ((cs.drop i).take (Tryz.prog.cellsOf 3)) = ys[i]? := by
      have : i = 1 ∨ i = 2 ∨ i = 3 ∨ i = 4 ∨ i = 5 ∨ i = 6 ∨ i = 7 ∨ i = 8 ∨ i = 9 ∨ i = 10 := by omega
      rcases this with rfl | rfl | rfl | rfl | rfl | rfl | rfl | rfl | rfl | rfl
      · exact h5 1 _ rfl
      · exact h5 2 _ rfl
      · exact h5 3 _ rfl
      · exact h5 4 _ rfl
      · exact h5 5 _ rfl
      · exact h5 6 _ rfl
      · exact h5 7 _ rfl
      · exact h5 8 _ rfl
      · exact h5 9 _ rfl
      · exact h5 10 _ rfl
    rw [c3] at f
    obtain ⟨y, hy⟩ : ∃ y, ys[i]? = some y := ⟨_, List.getElem?_eq_getElem (by rw [h4]; exact hi2)⟩
    rw [hy] at f
    obtain ⟨z, hz, _⟩ := rd_int Tryz.underlying3 f
    exact ⟨z, hz⟩
  obtain ⟨y0, hy0⟩ : ∃ y, ys[0]? = some y := ⟨_, List.getElem?_eq_getElem (by rw [h4]; decide)⟩
  rw [hy0] at f0
  obtain ⟨a, cap, xs, t1, t2, t3⟩ := rd_slice (f := fun z : Int => [Value.int .u8 z]) (Q := fun _ _ => True) Tryz.underlying22 f0 (fun m ys y hy => by
    obtain ⟨z, hz, _⟩ := rd_int Tryz.underlying5 hy
    exact ⟨z, hz, trivial⟩)
  obtain ⟨z1, e1⟩ := fi 1 (by omega) (by omega)
  obtain ⟨z2, e2⟩ := fi 2 (by omega) (by omega)
  obtain ⟨z3, e3⟩ := fi 3 (by omega) (by omega)
  obtain ⟨z4, e4⟩ := fi 4 (by omega) (by omega)
  obtain ⟨z5, e5⟩ := fi 5 (by omega) (by omega)
  obtain ⟨z6, e6⟩ := fi 6 (by omega) (by omega)
  obtain ⟨z7, e7⟩ := fi 7 (by omega) (by omega)
  obtain ⟨z8, e8⟩ := fi 8 (by omega) (by omega)
  obtain ⟨z9, e9⟩ := fi 9 (by omega) (by omega)
  obtain ⟨z10, e10⟩ := fi 10 (by omega) (by omega)
  have b := at_le hy0
  match cs, hl with
  | [v0, v1, v2, v3, v4, v5, v6, v7, v8, v9, v10], _ =>
    simp at t1 e1 e2 e3 e4 e5 e6 e7 e8 e9 e10
    subst t1 e1 e2 e3 e4 e5 e6 e7 e8 e9 e10
    have hfm := flat_ints .u8 xs
    refine ⟨⟨a, xs.length, cap, z1, z2, z3, z4, z5, z6, z7, z8, z9, z10⟩, xs, rfl, rfl, by rw [← hfm]; exact t2, ?_⟩
    have hb : Rows.uptoBulk y0.1 ≤ Rows.uptoBulk x.1 := by rw [h2]; exact b
    refine Nat.le_trans ?_ hb
    rcases t3 with ⟨rfl, _⟩ | ⟨elems, rest, q1, q2, _⟩
    · simp
    · have := length_le elems
      show xs.length ≤ _
      rw [q1, q2]; simp only [Rows.uptoBulk]; omega
end
theorem kids : Kids Tryz.prog (· < Tryz.prog.types.size) := kids_rows (by kernel_rfl) (by kernel_rfl)
theorem full : ∀ t e, t < Tryz.prog.types.size → Tryz.prog.underlying t = some (.slice e) → 0 < Tryz.prog.cellsOf e := slices_full_of Tryz.prog (by kernel_rfl)
theorem own : ownKnob Tryz.prog.godebug = none := by kernel_rfl

theorem runs (H : Type) (enc : TypeId × Value → H) (W : World) (base : Nat) (args : Array Value) (ds gs : List (DataW H)) (before : List MemPlace)
    (hval : ∀ (j : Nat) t v, Tryz.f3.params[j]? = some t → args[j]? = some v → Value.okWide Tryz.prog W .any base t v)
    (hW : DataW.Whole enc Tryz.prog Tryz.f3.params.toList Rows.serverLoadsSpec.vars false W args.toList ds gs before) (hk : Rows.uptoSmall H (ds ++ gs) = true) :
    ∃ n fr W1 v W2, runN Tryz.prog n (lone (Frame.enter Tryz.prog 3 args .normal) [] W) = .next (lone fr [] W1) ∧ runN Tryz.prog (n + 1) (lone (Frame.enter Tryz.prog 3 args .normal) [] W) = .ended (.done v) W2 ∧
      Rows.serverLoadsSpec.post enc Tryz.prog Tryz.f3 false true false false W args v W2 := by
  have hW' := hW
  obtain ⟨p, q, hA, hV, rfl, hfz, hnd⟩ := hW
  rw [show Tryz.f3.params = #[24, 29] from rfl] at hA hval
  obtain ⟨v0, vs0, d0, ds0, p0, q0, hargs, rfl, rfl, h0, r0⟩ := trodAll_cons hA
  obtain ⟨v1, vs1, d1, ds1, p1, q1, rfl, rfl, rfl, h1, r1⟩ := trodAll_cons r0
  obtain ⟨rfl, rfl, rfl⟩ := trodAll_nil r1
  obtain ⟨rfl, rfl⟩ := trodVars_none hV
  obtain rfl : args = #[v0, v1] := by cases args; simp_all
  obtain ⟨n0, t0⟩ := h0
  obtain ⟨n1, t1⟩ := h1
  obtain ⟨c, xs, hc, hm, hms, hb⟩ := rdConfig t0
  obtain ⟨s, hs, hE, hR, b1, b2, b3⟩ := rdState t1
  have hbound : Rows.uptoBulk d0 ≤ 1048576 ∧ Rows.uptoBulk d1 ≤ 1048576 := by
    have := of_decide_eq_true hk
    simp only [Rows.uptoBulkAll, List.append_nil] at this
    omega
  have ev0 : v0 = c.av.val id := agg_of_cells hc (by simp [Cfg.av, AV.cs, cellsL])
  have ev1 : v1 = s.av.val id := agg_of_cells hs (by simp [St.av, AV.cs, cellsL])
  subst ev0 ev1
  simp only at hb b1 b2 b3
  obtain ⟨n, fr, W1, W2, r, h', h2, e1, e2, _, ⟨_, rfl⟩, _, hd⟩ := (loads3 true c s xs (fragOf W) hE (by omega) (by omega) (fun e he => by have := b3 e he; omega) hR hm (by omega) hms).done (by kernel_rfl) (sees_fragOf W)
  refine ⟨n, fr, W1, _, W2, e1, e2, ?_⟩
  refine post_of_old kids full hW' rfl (by decide) rfl rfl (fun _ _ _ => trodAll_cons_mk (Go.RowKit.shut_bool Tryz.underlying4 _) trodAll_mk0) (did_old hd) hd.os hd.output (Go.RowKit.ok_one (by kernel_rfl) rfl (Go.RowKit.okWide_bool_mk Tryz.underlying4 _))
set_option maxRecDepth 100000 in
theorem lifted (os : Os) (started : os.Started) (H : Type) (enc : TypeId × Value → H) (F : Go.Stop.Interp) :
    ReturnsInLeavingWide {} Tryz.checked os 3 .any ((Rows.OpenSpec.upto Rows.serverLoadsSpec).pre6 enc Tryz.prog Tryz.f3 Rows.serverLoadsUptoRow.domain false) (((Rows.OpenSpec.upto Rows.serverLoadsSpec).at F).post enc Tryz.prog Tryz.f3 false true false false) := by
  refine leaving_of_cond (C := Tryz.checked) (s := Rows.OpenSpec.upto Rows.serverLoadsSpec) (k := Rows.uptoSmall) rfl own started Tryz.func3
    (OpenSpec.witness (enc := enc) (C := Tryz.checked) (s := Rows.OpenSpec.upto Rows.serverLoadsSpec) (k := Rows.uptoSmall) rfl false ⟨#[], #[.agg #[.slice none 0 0, .int .i64 0, .int .i64 0, .int .i64 0, .int .i64 0, .int .i64 0, .int .i64 0, .int .i64 0, .int .i64 0, .int .i64 0, .int .i64 0], .agg #[.int .i64 0, .int .i64 0, .slice none 0 0]], []⟩ 8 (by kernel_rfl) (by kernel_rfl) (by kernel_rfl)
      (x := ([.agg [.nil, .lit (.int .i64 0), .lit (.int .i64 0), .lit (.int .i64 0), .lit (.int .i64 0), .lit (.int .i64 0), .lit (.int .i64 0), .lit (.int .i64 0), .lit (.int .i64 0), .lit (.int .i64 0), .lit (.int .i64 0)], .agg [.lit (.int .i64 0), .agg [.lit (.int .i64 0), .nil]]], [], [])) (by kernel_rfl) rfl (by kernel_rfl)) ?_
  intro W base args ds gs before hval hW hk
  exact runs H enc W base args ds gs before hval hW hk
theorem proved : Rows.ServerLoadsUptoSaid :=
  holds_of_cond_leaving 3 Tryz.f3 rfl rfl rfl rfl rfl rfl rfl ⟨rfl, rfl, rfl, rfl, rfl⟩ rfl rfl rfl rfl rfl (by kernel_rfl) Tryz.func3 (by kernel_rfl)
    (of_decide_eq_true (by kernel_rfl)) (by unfold Func.isWrapper; first | (rw [if_pos (by decide +kernel)]; kernel_rfl) | (rw [if_neg (by decide +kernel)]; exact ⟨rfl, rfl⟩))
    (fun os started H enc _ F => lifted os started H enc F)
end Go.Proofs.YtfiephhdkloaeaaGreat.Ch
end
