/- The theory of the order: what is ready, the least that is ready taken again and again; what the loops of Order keep. No program in sight. -/
import Derived.Test.YtbpaadigojfkjaaP1
namespace Go.Proofs.Ytbpaadigojfkjaa

def need (rows : Nat → List Nat) (out : List Nat) (k : Nat) : Nat := ((rows k).filter fun i => !out.contains i).length
def rdy (n : Nat) (rows : Nat → List Nat) (out : List Nat) : List Nat := (List.range n).filter fun k => !out.contains k && need rows out k == 0
theorem mem_rdy {n : Nat} {rows : Nat → List Nat} {out : List Nat} {k : Nat} : k ∈ rdy n rows out ↔ k < n ∧ k ∉ out ∧ need rows out k = 0 := by simp [rdy]
theorem need_zero {rows : Nat → List Nat} {out : List Nat} {k : Nat} : need rows out k = 0 ↔ ∀ i ∈ rows k, i ∈ out := by
  simp [need, List.length_eq_zero_iff, List.filter_eq_nil_iff]

/-- The least that is ready, again and again. -/
inductive GS (n : Nat) (lt : Nat → Nat → Bool) (rows : Nat → List Nat) : List Nat → Prop where
  | nil : GS n lt rows []
  | snoc (out : List Nat) (x : Nat) : GS n lt rows out → x ∈ rdy n rows out → (∀ y ∈ rdy n rows out, lt y x = false) → GS n lt rows (out ++ [x])

section
variable {n : Nat} {lt : Nat → Nat → Bool} {rows : Nat → List Nat}
theorem GS.lt_n {out : List Nat} (h : GS n lt rows out) : ∀ x ∈ out, x < n := by
  induction h with
  | nil => intro x hx; cases hx
  | snoc out x h hx _ ih =>
    intro y hy
    rcases List.mem_append.1 hy with hy | hy
    · exact ih y hy
    · simp at hy; subst hy; exact (mem_rdy.1 hx).1
theorem GS.nodup {out : List Nat} (h : GS n lt rows out) : out.Nodup := by
  induction h with
  | nil => exact List.nodup_nil
  | snoc out x h hx _ ih =>
    rw [List.nodup_append]
    refine ⟨ih, by simp, ?_⟩
    intro a ha b hb
    simp at hb
    subst hb
    intro e
    subst e
    exact (mem_rdy.1 hx).2.1 ha
theorem GS.closed {out : List Nat} (h : GS n lt rows out) : ∀ x ∈ out, need rows out x = 0 := by
  induction h with
  | nil => intro x hx; cases hx
  | snoc out x h hx _ ih =>
    intro y hy
    rw [need_zero]
    intro i hi
    rcases List.mem_append.1 hy with hy | hy
    · exact List.mem_append_left _ (need_zero.1 (ih y hy) i hi)
    · simp at hy; subst hy
      exact List.mem_append_left _ (need_zero.1 (mem_rdy.1 hx).2.2 i hi)
theorem nodup_le : ∀ (n : Nat) (l : List Nat), l.Nodup → (∀ x ∈ l, x < n) → l.length ≤ n := by
  intro n
  induction n with
  | zero =>
    intro l _ h
    cases l with
    | nil => simp
    | cons a l => have := h a (by simp); omega
  | succ n ih =>
    intro l hd h
    have h1 := ih (l.erase n) (hd.erase n) (fun x hx => by
      have hm := List.mem_of_mem_erase hx
      have := h x hm
      have hne : x ≠ n := fun e => by subst e; exact (List.Nodup.not_mem_erase hd) hx
      omega)
    by_cases hm : n ∈ l
    · rw [List.length_erase_of_mem hm] at h1
      have := List.length_pos_of_mem hm
      omega
    · rw [List.erase_of_not_mem hm] at h1; omega
theorem GS.length_le {out : List Nat} (h : GS n lt rows out) : out.length ≤ n := nodup_le n out h.nodup h.lt_n
theorem GS.init {out : List Nat} {x : Nat} (h : GS n lt rows (out ++ [x])) : GS n lt rows out ∧ x ∈ rdy n rows out ∧ ∀ y ∈ rdy n rows out, lt y x = false := by
  generalize hl : out ++ [x] = l at h
  cases h with
  | nil => simp at hl
  | snoc o y h1 h2 h3 =>
    have := List.append_inj' hl rfl
    obtain ⟨rfl, h4⟩ := this
    simp at h4
    subst h4
    exact ⟨h1, h2, h3⟩
theorem GS.take {out : List Nat} (h : GS n lt rows out) (m : Nat) : GS n lt rows (out.take m) := by
  induction h with
  | nil => simp; exact .nil
  | snoc out x h hx hm ih =>
    by_cases e : m ≤ out.length
    · rw [List.take_append_of_le_length e]; exact ih
    · rw [List.take_of_length_le (by simp; omega)]; exact .snoc out x h hx hm
/-- Of two with one length there is one. -/
theorem GS.same (htot : ∀ a b, a < n → b < n → lt a b = false → lt b a = false → a = b) : ∀ (m : Nat) (o1 o2 : List Nat), GS n lt rows o1 → GS n lt rows o2 → o1.length = m → o2.length = m → o1 = o2 := by
  intro m
  induction m with
  | zero => intro o1 o2 _ _ h1 h2; rw [List.length_eq_zero_iff.1 h1, List.length_eq_zero_iff.1 h2]
  | succ m ih =>
    intro o1 o2 g1 g2 h1 h2
    have e1 := snoc_last h1
    have e2 := snoc_last h2
    rw [e1] at g1
    rw [e2] at g2
    obtain ⟨a1, b1, c1⟩ := g1.init
    obtain ⟨a2, b2, c2⟩ := g2.init
    have e := ih _ _ a1 a2 (by simp; omega) (by simp; omega)
    rw [e1, e2, e]
    rw [e] at b1 c1
    have := htot _ _ (mem_rdy.1 b1).1 (mem_rdy.1 b2).1 (c2 _ b1) (c1 _ b2)
    rw [this]
theorem GS.maximal (htot : ∀ a b, a < n → b < n → lt a b = false → lt b a = false → a = b) {o1 o2 : List Nat} (g1 : GS n lt rows o1) (g2 : GS n lt rows o2) (r1 : rdy n rows o1 = []) (r2 : rdy n rows o2 = []) : o1 = o2 := by
  have key : ∀ a b : List Nat, GS n lt rows a → GS n lt rows b → rdy n rows a = [] → a.length ≤ b.length → a = b := by
    intro a b ga gb ra hl
    have e := GS.same htot a.length a (b.take a.length) ga (gb.take _) rfl (by simp; omega)
    by_cases h : a.length = b.length
    · rw [e, List.take_of_length_le (by omega)]
    · exfalso
      have g := gb.take (a.length + 1)
      have hl2 : (b.take (a.length + 1)).length = a.length + 1 := by simp; omega
      have e2 := snoc_last hl2
      rw [e2] at g
      have hx := g.init.2.1
      rw [List.take_take, show min a.length (a.length + 1) = a.length from by omega, ← e, ra] at hx
      cases hx
  rcases Nat.le_total o1.length o2.length with h | h
  · exact key _ _ g1 g2 r1 h
  · exact (key _ _ g2 g1 r2 h).symm

/-! ### A program of it -/
def best (lt : Nat → Nat → Bool) : List Nat → Option Nat
  | [] => none
  | x :: l => match best lt l with
    | none => some x
    | some y => if lt y x then some y else some x
theorem best_none {l : List Nat} : best lt l = none ↔ l = [] := by
  cases l with
  | nil => simp [best]
  | cons x l =>
    simp only [best]
    cases best lt l with
    | none => simp
    | some y => simp only []; split <;> simp
theorem best_some (hw : SWO lt) : ∀ {l : List Nat} {x : Nat}, best lt l = some x → x ∈ l ∧ ∀ y ∈ l, lt y x = false := by
  intro l
  induction l with
  | nil => intro x h; simp [best] at h
  | cons a l ih =>
    intro x h
    simp only [best] at h
    cases hb : best lt l with
    | none =>
      rw [hb] at h
      simp at h
      subst h
      have := best_none.1 hb
      subst this
      exact ⟨by simp, fun y hy => by simp at hy; subst hy; exact hw.irr _⟩
    | some b =>
      rw [hb] at h
      obtain ⟨h1, h2⟩ := ih hb
      simp only [] at h
      split at h
      · rename_i hlt
        simp at h; subst h
        refine ⟨List.mem_cons_of_mem _ h1, fun y hy => ?_⟩
        rcases List.mem_cons.1 hy with rfl | hy
        · exact hw.asym _ _ hlt
        · exact h2 y hy
      · rename_i hlt
        simp at h; subst h
        refine ⟨by simp, fun y hy => ?_⟩
        rcases List.mem_cons.1 hy with rfl | hy
        · exact hw.irr _
        · exact hw.ntrans _ _ _ (h2 y hy) (by simpa using hlt)
def grF (n : Nat) (lt : Nat → Nat → Bool) (rows : Nat → List Nat) : Nat → List Nat → List Nat
  | 0, out => out
  | k + 1, out => match best lt (rdy n rows out) with
    | none => out
    | some x => grF n lt rows k (out ++ [x])
theorem grF_gs (hw : SWO lt) (k : Nat) : ∀ out, GS n lt rows out → GS n lt rows (grF n lt rows k out) ∧ (n ≤ k + out.length → rdy n rows (grF n lt rows k out) = []) := by
  induction k with
  | zero =>
    intro out h
    refine ⟨h, fun hn => ?_⟩
    have := h.length_le
    cases hr : rdy n rows (grF n lt rows 0 out) with
    | nil => rfl
    | cons x l =>
      exfalso
      have hx : x ∈ rdy n rows out := by have : x ∈ rdy n rows (grF n lt rows 0 out) := by rw [hr]; simp
                                         exact this
      have h1 := mem_rdy.1 hx
      have : (out ++ [x]).length ≤ n := nodup_le n _ (by
        rw [List.nodup_append]
        refine ⟨h.nodup, by simp, ?_⟩
        intro a ha b hb e
        simp at hb
        subst hb e
        exact h1.2.1 ha) (fun y hy => by
          rcases List.mem_append.1 hy with hy | hy
          · exact h.lt_n y hy
          · simp at hy; subst hy; exact h1.1)
      simp at this
      omega
  | succ k ih =>
    intro out h
    simp only [grF]
    cases hb : best lt (rdy n rows out) with
    | none => exact ⟨h, fun _ => best_none.1 hb⟩
    | some x =>
      obtain ⟨h1, h2⟩ := best_some hw hb
      have := ih (out ++ [x]) (.snoc out x h h1 h2)
      exact ⟨this.1, fun hn => this.2 (by simp; omega)⟩
/-- The whole order, as far as it goes. -/
def gr (n : Nat) (lt : Nat → Nat → Bool) (rows : Nat → List Nat) : List Nat := grF n lt rows n []
theorem gr_gs (hw : SWO lt) : GS n lt rows (gr n lt rows) := (grF_gs hw n [] .nil).1
theorem gr_max (hw : SWO lt) : rdy n rows (gr n lt rows) = [] := (grF_gs hw n [] .nil).2 (by simp)
theorem gr_of (hw : SWO lt) (htot : ∀ a b, a < n → b < n → lt a b = false → lt b a = false → a = b) {out : List Nat} (g : GS n lt rows out) (r : rdy n rows out = []) : out = gr n lt rows :=
  GS.maximal htot g (gr_gs hw) r (gr_max hw)

/-! ### What the loops keep -/
theorem nodup_fr (n : Nat) (P : Nat → Bool) : ((List.range n).filter P).Nodup := List.Pairwise.filter _ List.nodup_range
theorem filter_flip {P Q : Nat → Bool} {n k : Nat} (hk : k < n) (hP : P k = false) (hQ : Q k = true) (h : ∀ j, j < n → j ≠ k → Q j = P j) : (k :: (List.range n).filter P).Perm ((List.range n).filter Q) := by
  refine (List.perm_ext_iff_of_nodup ?_ (nodup_fr n Q)).2 ?_
  · rw [List.nodup_cons]
    exact ⟨by simp [hP], nodup_fr n P⟩
  · intro a
    simp only [List.mem_cons, List.mem_filter, List.mem_range]
    by_cases e : a = k
    · subst e; simp [hk, hQ]
    · constructor
      · rintro (h1 | ⟨h1, h2⟩)
        · exact absurd h1 e
        · exact ⟨h1, by rw [h a h1 e]; exact h2⟩
      · rintro ⟨h1, h2⟩
        exact .inr ⟨h1, by rw [← h a h1 e]; exact h2⟩
theorem filter_same {P Q : Nat → Bool} {n : Nat} (h : ∀ j, j < n → Q j = P j) : (List.range n).filter Q = (List.range n).filter P :=
  List.filter_congr (fun j hj => h j (List.mem_range.1 hj))

/-- Ahead of the first loop's i-th round. -/
structure InvS (n : Nat) (lt : Nat → Nat → Bool) (rows : Nat → List Nat) (i : Nat) (lacks xs : List Nat) : Prop where
  len : lacks.length = n
  lk : ∀ j, j < i → j < n → lacks.getD j 0 = (rows j).length
  hp : HP lt xs ((List.range n).filter fun j => decide (j < i) && (rows j).length == 0)
/-- Ahead of a round of the second loop. -/
structure Inv (n : Nat) (lt : Nat → Nat → Bool) (rows : Nat → List Nat) (out lacks xs : List Nat) : Prop where
  gs : GS n lt rows out
  len : lacks.length = n
  lk : ∀ j, j < n → lacks.getD j 0 = need rows out j
  hp : HP lt xs (rdy n rows out)
def needK (rows : Nat → List Nat) (out : List Nat) (x k j : Nat) : Nat := if j < k then need rows (out ++ [x]) j else need rows out j
/-- Ahead of its inner loop's k-th round: x has come. -/
structure InvK (n : Nat) (lt : Nat → Nat → Bool) (rows : Nat → List Nat) (out : List Nat) (x k : Nat) (lacks xs : List Nat) : Prop where
  gs : GS n lt rows (out ++ [x])
  len : lacks.length = n
  lk : ∀ j, j < n → lacks.getD j 0 = needK rows out x k j
  hp : HP lt xs ((List.range n).filter fun j => !(out ++ [x]).contains j && needK rows out x k j == 0)

theorem need_nil (j : Nat) : need rows [] j = (rows j).length := by
  unfold need
  rw [List.filter_eq_self.2 (fun a _ => by simp)]
theorem getD_set (l : List Nat) (i j v : Nat) (hi : i < l.length) : (l.set i v).getD j 0 = if j = i then v else l.getD j 0 := by
  simp only [List.getD_eq_getElem?_getD, List.getElem?_set]
  by_cases e : i = j
  · subst e; simp [hi]
  · simp [e, Ne.symm e]

theorem InvS.start {lacks : List Nat} (h : lacks.length = n) : InvS n lt rows 0 lacks [] := ⟨h, fun j h1 _ => by omega, by
  have : (List.range n).filter (fun j => decide (j < 0) && (rows j).length == 0) = [] := by simp
  rw [this]; exact HP.nil lt⟩
theorem InvS.push (hw : SWO lt) {i : Nat} {lacks xs : List Nat} (h : InvS n lt rows i lacks xs) (hi : i < n) (h0 : (rows i).length = 0) :
    InvS n lt rows (i + 1) (lacks.set i (rows i).length) (upF lt (xs.length + 1) (xs ++ [i]) xs.length) := by
  refine ⟨by simp [h.len], ?_, ?_⟩
  · intro j hj hn
    rw [getD_set _ _ _ _ (by rw [h.len]; exact hi)]
    by_cases e : j = i
    · rw [if_pos e, e]
    · rw [if_neg e]; exact h.lk j (by omega) hn
  · have := h.hp.push hw i
    exact ⟨this.heap, this.perm.trans (filter_flip hi (by simp) (by simp [h0]) (fun j hj hne => by
      have : (j < i + 1) ↔ (j < i) := by omega
      simp [this]))⟩
theorem InvS.pass {i : Nat} {lacks xs : List Nat} (h : InvS n lt rows i lacks xs) (hi : i < n) (h0 : (rows i).length ≠ 0) :
    InvS n lt rows (i + 1) (lacks.set i (rows i).length) xs := by
  refine ⟨by simp [h.len], ?_, ?_⟩
  · intro j hj hn
    rw [getD_set _ _ _ _ (by rw [h.len]; exact hi)]
    by_cases e : j = i
    · rw [if_pos e, e]
    · rw [if_neg e]; exact h.lk j (by omega) hn
  · have e : (List.range n).filter (fun j => decide (j < i + 1) && (rows j).length == 0) = (List.range n).filter (fun j => decide (j < i) && (rows j).length == 0) :=
      filter_same (fun j hj => by
        by_cases e : j = i
        · subst e; simp [h0]
        · have : (j < i + 1) ↔ (j < i) := by omega
          simp [this])
    rw [e]; exact h.hp
theorem InvS.done {lacks xs : List Nat} (h : InvS n lt rows n lacks xs) : Inv n lt rows [] lacks xs := by
  refine ⟨.nil, h.len, fun j hj => by rw [need_nil]; exact h.lk j hj hj, ?_⟩
  have e : rdy n rows [] = (List.range n).filter (fun j => decide (j < n) && (rows j).length == 0) := by
    unfold rdy
    exact filter_same (fun j hj => by rw [need_nil]; simp [hj])
  rw [e]; exact h.hp
theorem InvS.bound {i : Nat} {lacks xs : List Nat} (h : InvS n lt rows i lacks xs) : xs.length ≤ n ∧ ∀ x ∈ xs, x < n := by
  refine ⟨?_, fun x hx => ?_⟩
  · rw [h.hp.perm.length_eq]
    exact Nat.le_trans (List.length_filter_le _ _) (by simp)
  · have := h.hp.perm.mem_iff.1 hx
    simp at this
    exact this.1
theorem Inv.bound {out lacks xs : List Nat} (h : Inv n lt rows out lacks xs) : xs.length ≤ n ∧ ∀ x ∈ xs, x < n := by
  refine ⟨?_, fun x hx => ?_⟩
  · rw [h.hp.perm.length_eq]
    exact Nat.le_trans (List.length_filter_le _ _) (by simp)
  · exact (mem_rdy.1 (h.hp.perm.mem_iff.1 hx)).1
theorem InvK.bound {out lacks xs : List Nat} {x k : Nat} (h : InvK n lt rows out x k lacks xs) : xs.length ≤ n ∧ ∀ x ∈ xs, x < n := by
  refine ⟨?_, fun x hx => ?_⟩
  · rw [h.hp.perm.length_eq]
    exact Nat.le_trans (List.length_filter_le _ _) (by simp)
  · have := h.hp.perm.mem_iff.1 hx
    simp at this
    exact this.1
/-- Nothing is ready any more. -/
theorem Inv.over {out lacks : List Nat} (h : Inv n lt rows out lacks []) : rdy n rows out = [] := h.hp.perm.symm.eq_nil
/-- The least comes. -/
theorem Inv.pop (hw : SWO lt) {out lacks xs : List Nat} (h : Inv n lt rows out lacks xs) {m : Nat} (hm : xs.length = m + 1) :
    InvK n lt rows out ((downF lt m (m + 1) (swp xs 0 m) 0).getD m 0) 0 lacks ((downF lt m (m + 1) (swp xs 0 m) 0).take m) := by
  obtain ⟨L', h1, h2, h3⟩ := h.hp.pop hw hm
  obtain ⟨x, hx⟩ : ∃ x, (downF lt m (m + 1) (swp xs 0 m) 0).getD m 0 = x := ⟨_, rfl⟩
  rw [hx] at h2 h3 ⊢
  have hm : x ∈ rdy n rows out := h2.mem_iff.1 (by simp)
  refine ⟨.snoc out x h.gs hm h3, h.len, fun j hj => by rw [h.lk j hj]; simp [needK], h1.heap, h1.perm.trans ?_⟩
  have e : (List.range n).filter (fun j => !(out ++ [x]).contains j && needK rows out x 0 j == 0) = (rdy n rows out).erase x := by
    unfold rdy
    rw [List.Nodup.erase_eq_filter (nodup_fr n _)]
    rw [List.filter_filter]
    refine filter_same (fun j hj => ?_)
    simp only [needK, Nat.not_lt_zero, if_false]
    by_cases e : j = x
    · subst e; simp
    · simp [e]
  rw [e]
  have := h2.erase x
  simpa using this

theorem filter_out {l out : List Nat} {x : Nat} (hd : l.Nodup) (hx : x ∉ out) :
    (l.filter fun i => !out.contains i).length = (l.filter fun i => !(out ++ [x]).contains i).length + (if x ∈ l then 1 else 0) := by
  induction l with
  | nil => simp
  | cons a l ih =>
    rw [List.nodup_cons] at hd
    have := ih hd.2
    by_cases e : a = x
    · subst e
      have h0 : ¬ a ∈ l := hd.1
      rw [if_neg h0] at this
      simp [hx] at this ⊢
      exact this
    · by_cases ho : a ∈ out
      · simp [ho, Ne.symm e] at this ⊢
        exact this
      · simp [ho, e, Ne.symm e] at this ⊢
        omega
theorem need_snoc {out : List Nat} {x k : Nat} (hd : (rows k).Nodup) (hx : x ∉ out) : need rows out k = need rows (out ++ [x]) k + (if x ∈ rows k then 1 else 0) := filter_out hd hx

theorem InvK.notin {out lacks xs : List Nat} {x k : Nat} (h : InvK n lt rows out x k lacks xs) : x ∉ out := (mem_rdy.1 h.gs.init.2.1).2.1
/-- A package that does not import it. -/
theorem InvK.pass {out lacks xs : List Nat} {x k : Nat} (h : InvK n lt rows out x k lacks xs) (hd : (rows k).Nodup) (hm : x ∉ rows k) : InvK n lt rows out x (k + 1) lacks xs := by
  have hn : need rows out k = need rows (out ++ [x]) k := by rw [need_snoc hd h.notin, if_neg hm, Nat.add_zero]
  have e : ∀ j, needK rows out x (k + 1) j = needK rows out x k j := by
    intro j
    unfold needK
    by_cases e : j = k
    · subst e; simp [hn]
    · have : (j < k + 1) ↔ (j < k) := by omega
      simp [this]
  refine ⟨h.gs, h.len, fun j hj => by rw [e]; exact h.lk j hj, ?_⟩
  have : (fun j => !(out ++ [x]).contains j && needK rows out x (k + 1) j == 0) = (fun j => !(out ++ [x]).contains j && needK rows out x k j == 0) := by funext j; rw [e]
  rw [this]; exact h.hp
/-- One that imports it lacks one less. -/
theorem InvK.lacks_pos {out lacks xs : List Nat} {x k : Nat} (h : InvK n lt rows out x k lacks xs) (hk : k < n) (hd : (rows k).Nodup) (hm : x ∈ rows k) : lacks.getD k 0 = need rows (out ++ [x]) k + 1 := by
  rw [h.lk k hk]
  unfold needK
  rw [if_neg (by omega), need_snoc hd h.notin, if_pos hm]
theorem InvK.step {out lacks xs : List Nat} {x k : Nat} (h : InvK n lt rows out x k lacks xs) (hk : k < n) (hd : (rows k).Nodup) (hm : x ∈ rows k) :
    (∀ j, j < n → (lacks.set k (lacks.getD k 0 - 1)).getD j 0 = needK rows out x (k + 1) j) ∧ (∀ j, j ≠ k → needK rows out x (k + 1) j = needK rows out x k j) ∧ needK rows out x (k + 1) k = lacks.getD k 0 - 1 ∧ needK rows out x k k ≠ 0 ∧ k ∉ out ++ [x] := by
  have hp := h.lacks_pos hk hd hm
  have e1 : ∀ j, j ≠ k → needK rows out x (k + 1) j = needK rows out x k j := by
    intro j e
    unfold needK
    have : (j < k + 1) ↔ (j < k) := by omega
    simp [this]
  have e2 : needK rows out x (k + 1) k = lacks.getD k 0 - 1 := by unfold needK; rw [if_pos (by omega), hp]; omega
  have e3 : needK rows out x k k ≠ 0 := by rw [← h.lk k hk, hp]; omega
  refine ⟨?_, e1, e2, e3, ?_⟩
  · intro j hj
    rw [getD_set _ _ _ _ (by rw [h.len]; exact hk)]
    by_cases e : j = k
    · rw [if_pos e, e, e2]
    · rw [if_neg e, e1 j e]; exact h.lk j hj
  · intro hc
    have := h.gs.init
    rcases List.mem_append.1 hc with hc | hc
    · have := this.1.closed k hc
      have h3 : need rows out k ≠ 0 := by unfold needK at e3; rw [if_neg (by omega)] at e3; exact e3
      exact h3 this
    · simp at hc
      subst hc
      have h3 : need rows out k ≠ 0 := by unfold needK at e3; rw [if_neg (by omega)] at e3; exact e3
      exact h3 (mem_rdy.1 this.2.1).2.2
theorem InvK.less {out lacks xs : List Nat} {x k : Nat} (h : InvK n lt rows out x k lacks xs) (hk : k < n) (hd : (rows k).Nodup) (hm : x ∈ rows k) (h0 : lacks.getD k 0 - 1 ≠ 0) :
    InvK n lt rows out x (k + 1) (lacks.set k (lacks.getD k 0 - 1)) xs := by
  obtain ⟨h1, h2, h3, h4, h5⟩ := h.step hk hd hm
  refine ⟨h.gs, by simp [h.len], h1, ?_⟩
  have e : (List.range n).filter (fun j => !(out ++ [x]).contains j && needK rows out x (k + 1) j == 0) = (List.range n).filter (fun j => !(out ++ [x]).contains j && needK rows out x k j == 0) :=
    filter_same (fun j hj => by
      by_cases e : j = k
      · subst e
        have a : (needK rows out x (j + 1) j == 0) = false := by rw [h3]; simpa using h0
        have b : (needK rows out x j j == 0) = false := by simpa using h4
        rw [a, b]
      · rw [h2 j e])
  rw [e]; exact h.hp
theorem InvK.push (hw : SWO lt) {out lacks xs : List Nat} {x k : Nat} (h : InvK n lt rows out x k lacks xs) (hk : k < n) (hd : (rows k).Nodup) (hm : x ∈ rows k) (h0 : lacks.getD k 0 - 1 = 0) :
    InvK n lt rows out x (k + 1) (lacks.set k (lacks.getD k 0 - 1)) (upF lt (xs.length + 1) (xs ++ [k]) xs.length) := by
  obtain ⟨h1, h2, h3, h4, h5⟩ := h.step hk hd hm
  have hp := h.hp.push hw k
  refine ⟨h.gs, by simp [h.len], h1, hp.heap, hp.perm.trans (filter_flip hk ?_ ?_ ?_)⟩
  · have b : (needK rows out x k k == 0) = false := by simpa using h4
    rw [b, Bool.and_false]
  · have a : (needK rows out x (k + 1) k == 0) = true := by rw [h3]; simpa using h0
    have c : (out ++ [x]).contains k = false := by simpa using h5
    rw [a, c]; rfl
  · intro j _ e
    rw [h2 j e]
theorem InvK.start {out lacks xs : List Nat} {x : Nat} (h : InvK n lt rows out x n lacks xs) : Inv n lt rows (out ++ [x]) lacks xs := by
  refine ⟨h.gs, h.len, fun j hj => by rw [h.lk j hj]; unfold needK; rw [if_pos hj], ?_⟩
  have e : rdy n rows (out ++ [x]) = (List.range n).filter (fun j => !(out ++ [x]).contains j && needK rows out x n j == 0) := by
    unfold rdy
    exact filter_same (fun j hj => by unfold needK; rw [if_pos hj])
  rw [e]; exact h.hp
/-- Who lacks something in the end is not there. -/
theorem Inv.lacking {out lacks : List Nat} (h : Inv n lt rows out lacks []) {j : Nat} (hj : j < n) : 0 < lacks.getD j 0 ↔ j ∉ out := by
  rw [h.lk j hj]
  constructor
  · intro h1 h2
    have := h.gs.closed j h2
    omega
  · intro h1
    rcases Nat.eq_zero_or_pos (need rows out j) with e | e
    · have : j ∈ rdy n rows out := mem_rdy.2 ⟨hj, h1, e⟩
      rw [h.over] at this
      cases this
    · exact e
end
end Go.Proofs.Ytbpaadigojfkjaa
