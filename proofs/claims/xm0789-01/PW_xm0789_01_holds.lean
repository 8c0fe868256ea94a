import PyProof.Rows.All
import Wide.All
import OpenK.AllK
import Wide.FinOn
import PySem.Challenge.RW_xm0789_01
open PySem PySem.W PyProof.Rows
set_option Elab.async false
set_option maxRecDepth 100000

namespace Mine
open PySem PySem.W PySem.Calls PyProof.Rows

theorem ints_two {vs : List Value} {ns : List Int} (h : IntsAre vs ns) {a b : Int} (e : ns = [a, b]) : ∃ ta tb, vs = [.int a ta, .int b tb] := by
  subst e
  cases h with
  | cons _ ta h =>
    cases h with
    | cons _ tb h =>
      cases h
      exact ⟨ta, tb, rfl⟩

/-- the law's cord: two ints, the second small -/
def Cord (ns : List Int) : Prop := ∃ a b : Int, ns = [a, b] ∧ 0 ≤ a ∧ 0 ≤ b ∧ b < 70000

def CordPost (h₀ : Heap) (L : Addr) (m : Str → Option Value) (news : List (Addr × Obj)) (s : Shared) (v : Value) (s' : Shared) : Prop :=
  ∃ (d : Addr) (vs : List Value) (ns : List Int) (n : Nat) (h : Heap) (tk : Nat), IntsAre vs ns ∧ Cord ns ∧ (∀ p ∈ news, p.1 < d) ∧ v = .ref d ∧ s' = { s with heap := h, toks := tk } ∧ Fr h₀ L h m ∧ News h₀ L h ((d, listOf vs.toArray n) :: news)

theorem cord_cut {M : Model} {A : Around} {E : Value → Shared → Prop} {Q : Value → Shared → Prop} {s : Shared} {h₀ : Heap} {L : Addr} {m : Str → Option Value} {news : List (Addr × Obj)} {c : Sem Value}
    (F₀ : Fr h₀ L s.heap m) (N₀ : News h₀ L s.heap news)
    (hc : wpAny M A c (CordPost h₀ L m news s) E s)
    (hk : ∀ (d : Addr) (vs : List Value) (ns : List Int) (n : Nat) (h : Heap) (tk : Nat), IntsAre vs ns → Cord ns → (∀ p ∈ news, p.1 < d) → Fr h₀ L h m → News h₀ L h ((d, listOf vs.toArray n) :: news) → Q (.ref d) { s with heap := h, toks := tk }) :
    wpAny M A c Q E s := by
  refine wpAny_mono hc (fun v s₂ hq => ?_) fun _ _ h => h
  obtain ⟨d, vs, ns, n, h, tk, hi, hd, hl, hv, hs, F, N⟩ := hq
  subst hv
  subst hs
  exact hk d vs ns n h tk hi hd hl F N

theorem cord_end {h₀ h : Heap} {L d : Addr} {m : Str → Option Value} {news news' : List (Addr × Obj)} {s : Shared} {a b : Int} {ta tb : Tok} {n tk : Nat}
    (F : Fr h₀ L h m) (N : News h₀ L h news') (hd : (d, listOf #[.int a ta, .int b tb] n) ∈ news') (hn : ∀ p ∈ news, p ∈ news') (hl : ∀ p ∈ news, p.1 < d) (h0 : 0 ≤ a) (h1 : 0 ≤ b) (h2 : b < 70000) :
    CordPost h₀ L m news s (.ref d) { s with heap := h, toks := tk } :=
  ⟨d, [.int a ta, .int b tb], [a, b], n, h, tk, .cons a ta (.cons b tb .nil), ⟨a, b, rfl, h0, h1, h2⟩, hl, rfl, rfl, F, fun p hp => by
    rcases List.mem_cons.mp hp with rfl | hp
    · exact N _ hd
    · exact N _ (hn p hp)⟩

def KnotPost (h₀ : Heap) (L : Addr) (m : Str → Option Value) (newsF : Obj → List (Addr × Obj)) (s : Shared) (many : Int) (v : Value) (s' : Shared) : Prop :=
  ∃ (r : Int) (t : Tok) (vs : List Value) (ns : List Int) (n : Nat) (h : Heap) (tk : Nat), IntsAre vs ns ∧ Cord ns ∧ 0 ≤ r ∧ r < many ∧ v = .int r t ∧ s' = { s with heap := h, toks := tk } ∧ Fr h₀ L h m ∧ News h₀ L h (newsF (listOf vs.toArray n))

theorem knot_cut {M : Model} {A : Around} {E : Value → Shared → Prop} {Q : Value → Shared → Prop} {s : Shared} {h₀ : Heap} {L d : Addr} {m : Str → Option Value} {news : List (Addr × Obj)} {newsF : Obj → List (Addr × Obj)} {vs : List Value} {ns : List Int} {n : Nat} {many : Int} {t₀ : Tok} {f : Value}
    (F₀ : Fr h₀ L s.heap m) (N : News h₀ L s.heap news) (U : UpdF d (listOf vs.toArray n) news newsF) (hi : IntsAre vs ns) (hd : Cord ns)
    (hc : ∀ a ta b tb, 0 ≤ a → 0 ≤ b → b < 70000 → News h₀ L s.heap (newsF (listOf #[.int a ta, .int b tb] n)) → wpAny M A (call f [.ref d, .int many t₀]) (KnotPost h₀ L m newsF s many) E s)
    (hk : ∀ (r : Int) (t : Tok) (vs : List Value) (ns : List Int) (n : Nat) (h : Heap) (tk : Nat), IntsAre vs ns → Cord ns → 0 ≤ r → r < many → Fr h₀ L h m → News h₀ L h (newsF (listOf vs.toArray n)) → Q (.int r t) { s with heap := h, toks := tk }) :
    wpAny M A (call f [.ref d, .int many t₀]) Q E s := by
  obtain ⟨a, b, e, h0, h1, h2⟩ := hd
  obtain ⟨ta, tb, ev⟩ := ints_two hi e
  obtain ⟨pre, post, e1, e2, _, _⟩ := U.split
  have N' : News h₀ L s.heap (newsF (listOf #[.int a ta, .int b tb] n)) := by
    rw [e2]
    rw [e1, ev] at N
    exact N
  refine wpAny_mono (hc a ta b tb h0 h1 h2 N') (fun v s₂ hq => ?_) fun _ _ h => h
  obtain ⟨r, t, vs, ns, n, h, tk, hi, hd, hr0, hr1, hv, hs, F, N⟩ := hq
  subst hv
  subst hs
  exact hk r t vs ns n h tk hi hd hr0 hr1 F N

theorem knot_end {h₀ h : Heap} {L : Addr} {m : Str → Option Value} {newsF : Obj → List (Addr × Obj)} {news' : List (Addr × Obj)} {s : Shared} {many r : Int} {t : Tok} {a b : Int} {ta tb : Tok} {n tk : Nat}
    (F : Fr h₀ L h m) (N : News h₀ L h news') (hn : ∀ p ∈ newsF (listOf #[.int a ta, .int b tb] n), p ∈ news') (h0 : 0 ≤ a) (h1 : 0 ≤ b) (h2 : b < 70000) (hr0 : 0 ≤ r) (hr1 : r < many) :
    KnotPost h₀ L m newsF s many (.int r t) { s with heap := h, toks := tk } :=
  ⟨r, t, [.int a ta, .int b tb], [a, b], n, h, tk, .cons a ta (.cons b tb .nil), ⟨a, b, rfl, h0, h1, h2⟩, hr0, hr1, rfl, rfl, F, fun p hp => N _ (hn p hp)⟩

theorem seed_lo (x : Int) : 0 ≤ x.fmod 65101 + 167 := by
  have := Int.fmod_nonneg_of_pos x (b := 65101) (by decide)
  omega
theorem seed_hi (x : Int) : x.fmod 65101 + 167 < 70000 := by
  have := Int.fmod_lt_of_pos x (b := 65101) (by decide)
  omega
theorem turned {x : Int} (h : ¬ 0 ≤ x) : 0 ≤ 43 - x := by omega

/-- what the drawing loop keeps of the values -/
def Small (values : List Int) : Prop := ∀ v ∈ values, 0 ≤ v ∧ v < 1536
theorem small_nil : Small [] := fun _ h => nomatch h
theorem small_snoc {values : List Int} {r m : Int} (h : Small values) (h0 : 0 ≤ r) (h1 : r < m) (hm : m ≤ 1536) : Small (values ++ [r]) := fun v hv => by
  rcases List.mem_append.mp hv with hv | hv
  · exact h v hv
  · rw [List.mem_singleton.mp hv]; omega

def PairMap (m : Str → Option Value) (l : Int) (tl : Tok) (r : Int) (tr : Tok) : Str → Option Value := fun y => if y = Str.ofString "right" then some (.int r tr) else if y = Str.ofString "left" then some (.int l tl) else m y

def PairPost (h₀ : Heap) (L : Addr) (m : Str → Option Value) (d : Addr) (o : Obj) (s : Shared) (f : Flow) (s' : Shared) : Prop :=
  ∃ (l : Int) (tl : Tok) (r : Int) (tr : Tok) (h : Heap) (tk : Nat), 0 ≤ l ∧ l < 20 ∧ 0 ≤ r ∧ r < 20 ∧ f = .next ∧ s' = { s with heap := h, toks := tk } ∧ Fr h₀ L h (PairMap m l tl r tr) ∧ News h₀ L h [(d, o)]

theorem pair_cut {M : Model} {A : Around} {E : Value → Shared → Prop} {Q : Flow → Shared → Prop} {s : Shared} {h₀ : Heap} {L d : Addr} {m : Str → Option Value} {news : List (Addr × Obj)} {o : Obj} {c : Sem Flow}
    (F₀ : Fr h₀ L s.heap m) (N₀ : News h₀ L s.heap news) (hv₀ : m (Str.ofString "values") = some (.ref d)) (hd₀ : (d, o) ∈ news)
    (hc : wpAny M A c (PairPost h₀ L m d o s) E s)
    (hk : ∀ (l : Int) (tl : Tok) (r : Int) (tr : Tok) (h : Heap) (tk : Nat), 0 ≤ l → l < 20 → 0 ≤ r → r < 20 → Fr h₀ L h (fun y => if y = Str.ofString "right" then some (.int r tr) else if y = Str.ofString "left" then some (.int l tl) else m y) → News h₀ L h [(d, o)] → Q .next { s with heap := h, toks := tk }) :
    wpAny M A c Q E s := by
  refine wpAny_mono hc (fun v s₂ hq => ?_) fun _ _ h => h
  obtain ⟨l, tl, r, tr, h, tk, h0, h1, h2, h3, hv, hs, F, N⟩ := hq
  subst hv
  subst hs
  exact hk l tl r tr h tk h0 h1 h2 h3 F N

theorem pair_end {h₀ h : Heap} {L d : Addr} {m : Str → Option Value} {news' : List (Addr × Obj)} {o : Obj} {s : Shared} {l r : Int} {tl tr : Tok} {tk : Nat}
    (F : Fr h₀ L h (fun y => if y = Str.ofString "right" then some (.int r tr) else if y = Str.ofString "left" then some (.int l tl) else m y)) (N : News h₀ L h news') (hd : (d, o) ∈ news') (h0 : 0 ≤ l) (h1 : l < 20) (h2 : 0 ≤ r) (h3 : r < 20) :
    PairPost h₀ L m d o s .next { s with heap := h, toks := tk } :=
  ⟨l, tl, r, tr, h, tk, h0, h1, h2, h3, rfl, rfl, F, fun p hp => by
    rw [List.mem_singleton.mp hp]
    exact N _ hd⟩

/-- the law's own row, one place -/
def dueAt (wider : List Int) (scale left right k : Int) : Int :=
  (wider.getD (1 + k.fdiv 2).toNat 0 + wider.getD (1 + k.fdiv 2).toNat 0 + wider.getD (1 + k.fdiv 2).toNat 0 + wider.getD (k.fdiv 2 + 2 * k.fmod 2).toNat 0 + [left, right].getD (k.fmod 2).toNat 0 -
    (wider.getD (1 + k.fdiv 2).toNat 0 + wider.getD (1 + k.fdiv 2).toNat 0 + wider.getD (1 + k.fdiv 2).toNat 0 + wider.getD (k.fdiv 2 + 2 * k.fmod 2).toNat 0 + [left, right].getD (k.fmod 2).toNat 0).fmod (4 * scale)).fdiv (4 * scale)
theorem due_turn {pre due wider : List Int} {scale left right k : Int} (hl : due.length = pre.length) (h : due = pre.map (dueAt wider scale left right)) :
    (due ++ [dueAt wider scale left right k]).length = (pre ++ [k]).length ∧ due ++ [dueAt wider scale left right k] = (pre ++ [k]).map (dueAt wider scale left right) :=
  ⟨by simp only [List.length_append, List.length_cons, List.length_nil]; omega, by rw [List.map_append, ← h]; rfl⟩

/-- the left and the right neighbour, the row's ends repeated -/
def aheadOf (values : List Int) (k : Int) : Int := if 0 < k then values.getD (k - 1).toNat 0 else values.getD k.toNat 0
def behindOf (values : List Int) (k : Int) : Int := if k + 1 < (values.length : Int) then values.getD (k + 1).toNat 0 else values.getD k.toNat 0
theorem ahead_in {values : List Int} {k : Int} (h : 0 < k) : values.getD (k - 1).toNat 0 = aheadOf values k := (if_pos h).symm
theorem ahead_out {values : List Int} {k : Int} (h : ¬ 0 < k) : values.getD k.toNat 0 = aheadOf values k := (if_neg h).symm
theorem behind_in {values : List Int} {k : Int} (h : k + 1 < (values.length : Int)) : values.getD (k + 1).toNat 0 = behindOf values k := (if_pos h).symm
theorem behind_out {values : List Int} {k : Int} (h : ¬ k + 1 < (values.length : Int)) : values.getD k.toNat 0 = behindOf values k := (if_neg h).symm

def IfPost (h₀ : Heap) (L : Addr) (m : Str → Option Value) (news : List (Addr × Obj)) (s : Shared) (x : Int) (v : Value) (s' : Shared) : Prop :=
  ∃ (t : Tok) (h : Heap) (tk : Nat), v = .int x t ∧ s' = { s with heap := h, toks := tk } ∧ Fr h₀ L h m ∧ News h₀ L h news

theorem if_cut (f : List Int → Int → Int) {M : Model} {A : Around} {E : Value → Shared → Prop} {Q : Value → Shared → Prop} {s : Shared} {h₀ : Heap} {L d : Addr} {m : Str → Option Value} {news : List (Addr × Obj)} {ws : List Value} {vs : List Int} {n : Nat} {k : Int} {t₀ : Tok} {c : Sem Value}
    (F₀ : Fr h₀ L s.heap m) (N₀ : News h₀ L s.heap news) (hv₀ : m (Str.ofString "values") = some (.ref d)) (ha₀ : m (Str.ofString "at") = some (.int k t₀)) (hd₀ : (d, listOf ws.toArray n) ∈ news) (hi₀ : IntsAre ws vs)
    (hc : wpAny M A c (IfPost h₀ L m news s (f vs k)) E s)
    (hk : ∀ (t : Tok) (h : Heap) (tk : Nat), Fr h₀ L h m → News h₀ L h news → Q (.int (f vs k) t) { s with heap := h, toks := tk }) :
    wpAny M A c Q E s := by
  refine wpAny_mono hc (fun v s₂ hq => ?_) fun _ _ h => h
  obtain ⟨t, h, tk, hv, hs, F, N⟩ := hq
  subst hv
  subst hs
  exact hk t h tk F N

theorem if_end {h₀ h : Heap} {L : Addr} {m : Str → Option Value} {news news' : List (Addr × Obj)} {s : Shared} {x y : Int} {t : Tok} {tk : Nat}
    (F : Fr h₀ L h m) (N : News h₀ L h news') (hn : news = news') (e : y = x) : IfPost h₀ L m news s x (.int y t) { s with heap := h, toks := tk } := by
  subst e
  subst hn
  exact ⟨t, h, tk, rfl, rfl, F, N⟩

/-- the function's row: the two numbers of one value -/
def pairAt (values : List Int) (scale left right k : Int) : List Int :=
  [(3 * values.getD k.toNat 0 + aheadOf values k + left).fdiv (4 * scale), (3 * values.getD k.toNat 0 + behindOf values k + right).fdiv (4 * scale)]
theorem found_turn {values pre found : List Int} {scale left right k : Int} (hl : found.length = 2 * pre.length) (h : found = (pre.map (pairAt values scale left right)).flatten) :
    (found ++ [(3 * values.getD k.toNat 0 + aheadOf values k + left).fdiv (4 * scale)] ++ [(3 * values.getD k.toNat 0 + behindOf values k + right).fdiv (4 * scale)]).length = 2 * (pre ++ [k]).length ∧
      found ++ [(3 * values.getD k.toNat 0 + aheadOf values k + left).fdiv (4 * scale)] ++ [(3 * values.getD k.toNat 0 + behindOf values k + right).fdiv (4 * scale)] = ((pre ++ [k]).map (pairAt values scale left right)).flatten :=
  ⟨by simp only [List.length_append, List.length_cons, List.length_nil]; omega, by
    rw [List.map_append, List.flatten_append, ← h, List.append_assoc]
    rfl⟩

theorem less_rest (t m : Int) (h : m ≠ 0) : (t - t.fmod m).fdiv m = t.fdiv m := by
  have e := Int.mul_fdiv_add_fmod t m
  have e2 : t - t.fmod m = m * t.fdiv m := by omega
  rw [e2, Int.mul_fdiv_cancel_left _ h]

theorem wider_head (vs : List Int) (h : 0 < vs.length) : (vs.take 1 ++ vs ++ vs.drop (vs.length - 1)).getD 0 0 = vs.getD 0 0 := by
  cases vs with
  | nil => exact absurd h (Nat.lt_irrefl _)
  | cons a r => rfl
theorem wider_mid (vs : List Int) {j : Nat} (h : j < vs.length) : (vs.take 1 ++ vs ++ vs.drop (vs.length - 1)).getD (j + 1) 0 = vs.getD j 0 := by
  have h1 : (vs.take 1).length = 1 := by rw [List.length_take]; omega
  rw [List.getD_eq_getElem?_getD, List.getD_eq_getElem?_getD, List.getElem?_append_left (by rw [List.length_append, h1]; omega), List.getElem?_append_right (by rw [h1]; omega), h1, Nat.add_sub_cancel]
theorem wider_last (vs : List Int) {j : Nat} (h : j + 1 = vs.length) : (vs.take 1 ++ vs ++ vs.drop (vs.length - 1)).getD (j + 2) 0 = vs.getD j 0 := by
  have h1 : (vs.take 1).length = 1 := by rw [List.length_take]; omega
  rw [List.getD_eq_getElem?_getD, List.getD_eq_getElem?_getD, List.getElem?_append_right (by rw [List.length_append, h1]; omega), List.length_append, h1, List.getElem?_drop]
  congr 2
  omega

theorem due_even {vs : List Int} {scale left right : Int} (hs : 0 < scale) {k : Nat} (hk : k < vs.length) :
    dueAt (vs.take 1 ++ vs ++ vs.drop (vs.length - 1)) scale left right (2 * (k : Int)) =
      (3 * vs.getD (k : Int).toNat 0 + (if 0 < (k : Int) then vs.getD ((k : Int) - 1).toNat 0 else vs.getD (k : Int).toNat 0) + left).fdiv (4 * scale) := by
  have e1 : (2 * (k : Int)).fdiv 2 = k := Int.mul_fdiv_cancel_left _ (by decide)
  have e2 : (2 * (k : Int)).fmod 2 = 0 := by rw [Int.fmod_eq_emod_of_nonneg _ (by decide)]; omega
  unfold dueAt
  rw [less_rest _ _ (by omega), e1, e2, show (1 + (k : Int)).toNat = k + 1 by omega, show ((k : Int) + 2 * 0).toNat = k by omega, wider_mid vs hk, show (k : Int).toNat = k by omega,
    show [left, right].getD (0 : Int).toNat 0 = left from rfl]
  have e3 : (vs.take 1 ++ vs ++ vs.drop (vs.length - 1)).getD k 0 = if 0 < (k : Int) then vs.getD ((k : Int) - 1).toNat 0 else vs.getD k 0 := by
    cases k with
    | zero => rw [if_neg (by decide)]; exact wider_head vs hk
    | succ j => rw [if_pos (by omega), wider_mid vs (by omega), show (((j + 1 : Nat) : Int) - 1).toNat = j by omega]
  rw [e3]
  congr 1
  omega
theorem due_odd {vs : List Int} {scale left right : Int} (hs : 0 < scale) {k : Nat} (hk : k < vs.length) :
    dueAt (vs.take 1 ++ vs ++ vs.drop (vs.length - 1)) scale left right (2 * (k : Int) + 1) =
      (3 * vs.getD (k : Int).toNat 0 + (if (k : Int) + 1 < (vs.length : Int) then vs.getD ((k : Int) + 1).toNat 0 else vs.getD (k : Int).toNat 0) + right).fdiv (4 * scale) := by
  have e1 : (2 * (k : Int) + 1).fdiv 2 = k := by rw [Int.fdiv_eq_ediv_of_nonneg _ (by decide)]; omega
  have e2 : (2 * (k : Int) + 1).fmod 2 = 1 := by rw [Int.fmod_eq_emod_of_nonneg _ (by decide)]; omega
  unfold dueAt
  rw [less_rest _ _ (by omega), e1, e2, show (1 + (k : Int)).toNat = k + 1 by omega, show ((k : Int) + 2 * 1).toNat = k + 2 by omega, wider_mid vs hk, show (k : Int).toNat = k by omega,
    show [left, right].getD (1 : Int).toNat 0 = right from rfl]
  have e3 : (vs.take 1 ++ vs ++ vs.drop (vs.length - 1)).getD (k + 2) 0 = if (k : Int) + 1 < (vs.length : Int) then vs.getD ((k : Int) + 1).toNat 0 else vs.getD k 0 := by
    by_cases h : k + 1 < vs.length
    · rw [if_pos (by omega), wider_mid vs h, show ((k : Int) + 1).toNat = k + 1 by omega]
    · rw [if_neg (by omega), wider_last vs (by omega)]
  rw [e3]
  congr 1
  omega

theorem pairs_flat (f : Int → Int) (g : Int → List Int) : ∀ n : Nat, (∀ k : Nat, k < n → g (k : Int) = [f (2 * (k : Int)), f (2 * (k : Int) + 1)]) → ((rangeKs 0 n).map g).flatten = (rangeKs 0 (2 * n)).map f
  | 0, _ => rfl
  | n + 1, h => by
    have ih := pairs_flat f g n fun k hk => h k (by omega)
    have e1 : rangeKs 0 (n + 1) = rangeKs 0 n ++ [(n : Int)] := by
      unfold rangeKs
      rw [List.range_succ, List.map_append]
      simp
    have e2 : rangeKs 0 (2 * (n + 1)) = rangeKs 0 (2 * n) ++ [2 * (n : Int), 2 * (n : Int) + 1] := by
      unfold rangeKs
      rw [show 2 * (n + 1) = 2 * n + 1 + 1 by omega, List.range_succ, List.range_succ, List.map_append, List.map_append, List.append_assoc]
      congr 1
      simp
    rw [e1, e2, List.map_append, List.map_append, List.flatten_append, ih]
    congr 1
    show (g n ++ []) = _
    rw [List.append_nil, h n (by omega)]
    rfl

theorem rows_same {vs : List Int} {scale left right : Int} (hs : 0 < scale) {n n2 : Nat} (hn : n = vs.length) (h2 : n2 = 2 * vs.length) :
    ((rangeKs 0 n).map (pairAt vs scale left right)).flatten = (rangeKs 0 n2).map (dueAt (vs.take 1 ++ vs ++ vs.drop (vs.length - 1)) scale left right) := by
  subst hn
  subst h2
  refine pairs_flat _ _ _ fun k hk => ?_
  rw [due_even hs hk, due_odd hs hk]
  rfl
theorem law_end {vs found due : List Int} {scale left right : Int} {n n2 : Nat} {inst : Decidable (found = due)} (hf : found = ((rangeKs 0 n).map (pairAt vs scale left right)).flatten)
    (hd : due = (rangeKs 0 n2).map (dueAt (vs.take 1 ++ vs ++ vs.drop (vs.length - 1)) scale left right)) (hs : 0 < scale) (hn : n = vs.length) (h2 : n2 = 2 * vs.length) : (@decide (found = due) inst == true) = true := by
  have e : found = due := by rw [hf, hd]; exact rows_same hs hn h2
  rw [decide_eq_true e]
  rfl
end Mine

local macro_rules | `(tactic| walk_at "call ref") => `(tactic| (k_here; (with_reducible show wpAny _ _ (call (Value.ref _) [Value.ref _]) _ _ _); (fail_if_success (with_reducible show wpAny _ _ _ (Mine.CordPost _ _ _ _ _) _ _)); (rename Fr _ _ _ _ => cF'); (rename News _ _ _ _ => cN'); refine' Mine.cord_cut cF' cN' ?_ ?_; rotate_left; (intro d' vs' ns' n' h' tk' hi' hc' l1 F' N'; (try k_lt l1); (try k_sweep)); rotate_right; walk_say "CORD CUT"))
local macro_rules | `(tactic| walk_at "call ref") => `(tactic| (k_here; (with_reducible show wpAny _ _ (call (Value.ref _) [Value.ref _, Value.int _ _]) _ _ _); (fail_if_success (with_reducible show wpAny _ _ _ (Mine.KnotPost _ _ _ _ _ _) _ _)); (rename Fr _ _ _ _ => cF'); (rename News _ _ _ _ => cN'); refine' Mine.knot_cut cF' cN' ?kU ?kI ?kC ?_ ?_; (case kU => k_dflt k_updF); (case kI => assumption); (case kC => assumption); rotate_left; (intro r' t' vs' ns' n' h' tk' hi' hc' hr0' hr1' F' N'; (try k_sweep)); rotate_right; intro a' ta' b' tb' h0' h1' h2' N'; clear cN'; walk_say "KNOT CUT"))
local macro_rules | `(tactic| walk_at "CordPost") => `(tactic| (k_dflt (refine' Mine.cord_end ?F ?N ?hd ?hn ?hl ?h0 ?h1 ?h2; (case F => assumption); (case N => assumption); (case hd => exact List.Mem.head _); (case hn => exact List.forall_mem_nil _); (case hl => exact List.forall_mem_nil _); (case h0 => first | assumption | exact Int.le_refl 0 | exact Mine.turned (by assumption)); (case h1 => exact Mine.seed_lo _); (case h2 => exact Mine.seed_hi _)); walk_say "CORD END"))
local macro_rules | `(tactic| walk_at "KnotPost") => `(tactic| (k_dflt (refine' Mine.knot_end ?F ?N ?hn ?h0 ?h1 ?h2 ?r0 ?r1; (case F => assumption); (case N => assumption); (case hn => ((try dsimp only); kcj_all)); (case h0 => first | assumption | exact Int.fdiv_nonneg (by assumption) (by omega)); (case h1 => first | assumption | exact Int.fmod_nonneg_of_pos _ (by decide)); (case h2 => first | assumption | exact Int.lt_trans (Int.fmod_lt_of_pos _ (by decide)) (by decide)); (case r0 => exact Int.fmod_nonneg_of_pos _ (by omega)); (case r1 => exact Int.fmod_lt_of_pos _ (by omega))); walk_say "KNOT END"))

local macro_rules | `(tactic| walk_at "exec Assign") => `(tactic| (k_here; (with_reducible show wpAny _ _ (exec (Stmt.Assign [Expr.Tuple [Expr.Name _ _, Expr.Name _ _] _ _] (Expr.Subscript _ _ _) _) _) _ _ _); (fail_if_success (with_reducible show wpAny _ _ _ (Mine.PairPost _ _ _ _ _ _) _ _)); (rename Fr _ _ _ _ => cF'); (rename News _ _ _ _ => cN'); refine' Mine.pair_cut cF' cN' ?kV ?kD ?_ ?_; (case kV => with_unfolding_all rfl); (case kD => k_dflt k_memK); rotate_left; (intro l' tl' r' tr' h' tk' h0' h1' h2' h3' F' N'; (try k_sweep)); rotate_right; walk_say "PAIR CUT"))
local macro_rules | `(tactic| walk_at "PairPost") => `(tactic| (k_dflt (refine' Mine.pair_end ?F ?N ?hd ?h0 ?h1 ?h2 ?h3; (case F => assumption); (case N => assumption); (case hd => k_dflt kcj_m); (case h0 => first | decide | omega); (case h1 => first | decide | omega); (case h2 => first | decide | omega); (case h3 => first | decide | omega)); walk_say "PAIR END"))

local macro_rules | `(tactic| walk_at "eval IfExp") => `(tactic| (k_here; (with_reducible show wpAny _ _ (eval (Expr.IfExp (Expr.Compare (Expr.Name (Str.ofString "at") _) _ _ _) _ _ _) _) _ _ _); (fail_if_success (with_reducible show wpAny _ _ _ (Mine.IfPost _ _ _ _ _ _) _ _)); (rename Fr _ _ _ _ => cF'); (rename News _ _ _ _ => cN'); k_dflt (refine' Mine.if_cut Mine.aheadOf cF' cN' ?kV ?kA ?kD ?kI ?_ ?_; (case kV => with_unfolding_all rfl); (case kA => with_unfolding_all rfl); (case kD => k_memK); (case kI => assumption); rotate_left; (intro t' h' tk' F' N'; (try k_sweep)); rotate_right); walk_say "AHEAD CUT"))
local macro_rules | `(tactic| walk_at "eval IfExp") => `(tactic| (k_here; (with_reducible show wpAny _ _ (eval (Expr.IfExp (Expr.Compare (Expr.BinOp (Expr.Name (Str.ofString "at") _) _ _ _) _ _ _) _ _ _) _) _ _ _); (fail_if_success (with_reducible show wpAny _ _ _ (Mine.IfPost _ _ _ _ _ _) _ _)); (rename Fr _ _ _ _ => cF'); (rename News _ _ _ _ => cN'); k_dflt (refine' Mine.if_cut Mine.behindOf cF' cN' ?kV ?kA ?kD ?kI ?_ ?_; (case kV => with_unfolding_all rfl); (case kA => with_unfolding_all rfl); (case kD => k_memK); (case kI => assumption); rotate_left; (intro t' h' tk' F' N'; (try k_sweep)); rotate_right); walk_say "BEHIND CUT"))
local macro_rules | `(tactic| walk_at "IfPost") => `(tactic| (k_dflt (refine' Mine.if_end ?F ?N ?hn ?e; (case F => assumption); (case N => assumption); (case hn => rfl); (case e => first | exact Mine.ahead_in (by assumption) | exact Mine.ahead_out (by assumption) | exact Mine.behind_in (by assumption) | exact Mine.behind_out (by assumption))); walk_say "IF END"))
local macro_rules | `(tactic| walk_at "InvEndN") => `(tactic| k_dflt kst_close)

set_option maxRecDepth 100000 in
set_option maxHeartbeats 8000000 in
theorem PySem.Challenge.cw_xm0789_01_holds : PySem.Challenge.rw_xm0789_01.Holds := by
  k_with "pyIter ref" => k_of "turn" => k_state (fun pre cord values => Mine.Cord cord ∧ values.length = pre.length ∧ values.length ≤ 9 ∧ Mine.Small values) "cord" "values"
  k_with "pyIter ref" => k_of "spot" => k_state_given ["wider", "scale", "left", "right"] (fun wider scale left right pre due => due.length = pre.length ∧ due = pre.map (Mine.dueAt wider scale left right)) "due"
  k_with "pyIter ref" => k_of "at" => k_state_given ["values", "scale", "left", "right"] (fun values scale left right pre found => found.length = 2 * pre.length ∧ found = (pre.map (Mine.pairAt values scale left right)).flatten) "found"
  k_with "state" => first | exact ⟨by assumption, rfl, Nat.zero_le _, Mine.small_nil⟩ | exact ⟨by assumption, by (simp only [List.length_append, List.length_cons, List.length_nil]; omega), by (simp only [List.length_append, List.length_cons, List.length_nil]; omega), Mine.small_snoc (by assumption) (by assumption) (by assumption) (by omega)⟩ | exact ⟨rfl, List.map_nil.symm⟩ | k_dflt (exact Mine.due_turn (by assumption) (by assumption)) | exact ⟨rfl, (by simp only [List.map_nil, List.flatten_nil])⟩ | k_dflt (exact Mine.found_turn (by assumption) (by assumption))
  k_with "end" => exact Mine.law_end (by assumption) (by assumption) (by omega) (by omega) (by omega)
  open_k
