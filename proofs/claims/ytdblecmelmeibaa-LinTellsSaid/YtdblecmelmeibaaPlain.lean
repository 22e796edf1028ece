/- The plain laws of orders: what lin's Check decides, said by lists alone. -/
import Derived.Test.YtdblecmelmeibaaCheck
namespace Go.Proofs.Ytdblecmelmeibaa
set_option linter.unusedVariables false

/-- What a key has behind acts in their order. -/
def runs : PK → List PA → Option PK
  | k, [] => some k
  | k, x :: s => if (behindOf k x).2 = true then runs (behindOf k x).1 s else none
/-- Acts may have been done one behind the other. -/
def Ord (acts : List PA) (k fin : PK) : Prop :=
  ∃ s rest, (s ++ rest).Perm acts ∧ (∀ y ∈ rest, y.sure = false) ∧ s.Pairwise (fun a b => a.fr ≤ b.to) ∧ runs k s = some fin

theorem runs_append (s t : List PA) : ∀ k m, runs k s = some m → runs k (s ++ t) = runs m t := by
  induction s with
  | nil => intro k m h; simp [runs] at h; rw [h]; rfl
  | cons x s ih =>
    intro k m h
    simp only [runs, List.cons_append] at h ⊢
    split at h
    · rw [if_pos ‹_›]; exact ih _ _ h
    · cases h

/-- The acts that are open, of the first ones. -/
def opl (acts : List PA) (G : Nat) : Nat → List PA
  | 0 => []
  | k + 1 => opl acts G k ++ (if opn G k then (acts[k]?).toList else [])

theorem sure_opl (acts : List PA) (G : Nat) : ∀ n, sureTo acts G n = (opl acts G n).any PA.sure
  | 0 => rfl
  | n + 1 => by
    rw [sureTo, opl, List.any_append, sure_opl acts G n]
    cases opn G n <;> cases acts[n]? <;> simp

theorem opn_or_eq (a b j : Nat) : opn (a ||| b) j = (opn a j && opn b j) := by
  unfold opn
  rw [Nat.testBit_or]
  cases a.testBit j <;> cases b.testBit j <;> rfl
theorem opn_pow (i j : Nat) : opn (2 ^ i) j = decide (i ≠ j) := by
  unfold opn
  rw [Nat.testBit_two_pow]
  by_cases h : i = j <;> simp [h]

theorem opl_same (acts : List PA) (G G' : Nat) : ∀ n, (∀ j, j < n → opn G' j = opn G j) → opl acts G' n = opl acts G n
  | 0, _ => rfl
  | n + 1, h => by
    rw [opl, opl, opl_same acts G G' n (fun j hj => h j (by omega)), h n (by omega)]

theorem opl_cons (acts : List PA) (G i : Nat) (x : PA) (hx : acts[i]? = some x) (ho : opn G i = true) : ∀ n, i < n → (opl acts G n).Perm (x :: opl acts (G ||| 2 ^ i) n)
  | 0, h => by omega
  | n + 1, h => by
    by_cases e : i = n
    · subst e
      have h1 : opl acts (G ||| 2 ^ i) i = opl acts G i := opl_same acts _ _ i (fun j hj => by rw [opn_or_eq, opn_pow]; simp; omega)
      have h2 : opn (G ||| 2 ^ i) i = false := by rw [opn_or_eq, opn_pow]; simp
      rw [opl, opl, h1, h2, ho, hx]
      simp
    · have ih := opl_cons acts G i x hx ho n (by omega)
      have h2 : opn (G ||| 2 ^ i) n = opn G n := by rw [opn_or_eq, opn_pow]; simp [e]
      rw [opl, opl, h2]
      exact (ih.append_right _).trans (by simp)

theorem opl_filter (acts : List PA) (G G' : Nat) (p : PA → Bool) : ∀ n, (∀ j y, j < n → acts[j]? = some y → opn G' j = (opn G j && p y)) → opl acts G' n = (opl acts G n).filter p
  | 0, _ => rfl
  | n + 1, h => by
    rw [opl, opl, List.filter_append, opl_filter acts G G' p n (fun j y hj => h j y (by omega))]
    congr 1
    cases hy : acts[n]? with
    | none => simp
    | some y =>
      have := h n y (by omega) hy
      rw [this]
      cases opn G n <;> cases hp : p y <;> simp [hp]

def stays (x : PA) (y : PA) : Bool := !decide (y.to < x.fr)

theorem nx_open (acts : List PA) (G i : Nat) (x : PA) (ok : Bool) : ∀ n j y, acts[j]? = some y → opn (nxTo acts G i x ok n).1 j = (opn (G ||| 2 ^ i) j && (!decide (j < n) || stays x y))
  | 0, j, y, _ => by simp [nxTo]
  | n + 1, j, y, hy => by
    have ih := nx_open acts G i x ok n j y hy
    rw [nxTo]
    cases hn : acts[n]? with
    | none =>
      have : j ≠ n := by rintro rfl; rw [hy] at hn; cases hn
      simp only
      rw [ih]
      have : decide (j < n + 1) = decide (j < n) := by simp; omega
      rw [this]
    | some z =>
      simp only
      by_cases e : j = n
      · subst e
        rw [hy] at hn
        injection hn with hn
        subst hn
        split
        · rename_i h
          simp only [Bool.and_eq_true, bne_iff_ne, decide_eq_true_eq] at h
          simp only [opn_or_eq, opn_pow]
          simp [stays, h.2]
        · rename_i h
          rw [ih]
          simp only [Bool.and_eq_true, bne_iff_ne, decide_eq_true_eq] at h
          rw [opn_or_eq, opn_pow]
          by_cases e2 : i = j
          · simp [e2]
          · cases ho : opn G j
            · simp
            · simp only [stays, Nat.lt_irrefl, decide_false, Bool.not_false, Bool.true_or, Nat.lt_succ_self, decide_true, Bool.not_true, Bool.false_or]
              have : ¬ y.to < x.fr := fun h3 => h ⟨⟨fun h => e2 h.symm, ho⟩, h3⟩
              simp [this]
      · have h1 : decide (j < n + 1) = decide (j < n) := by simp; omega
        rw [h1, ← ih]
        split
        · simp only [opn_or_eq, opn_pow]
          have : n ≠ j := fun h => e h.symm
          simp [this]
        · rfl

theorem nx_ok (acts : List PA) (G i : Nat) (x : PA) (ok : Bool) : ∀ n, (nxTo acts G i x ok n).2 = (ok && (opl acts (G ||| 2 ^ i) n).all (fun y => stays x y || !y.sure))
  | 0 => by simp [nxTo, opl]
  | n + 1 => by
    have ih := nx_ok acts G i x ok n
    rw [nxTo, opl, List.all_append, ← Bool.and_assoc, ← ih]
    cases hn : acts[n]? with
    | none => simp
    | some z =>
      have e1 : opn (G ||| 2 ^ i) n = (n != i && opn G n) := by
        rw [opn_or_eq, opn_pow]
        by_cases h : i = n
        · subst h; simp
        · have h' : ¬ n = i := fun e => h e.symm
          have : (n != i) = true := by simp [h']
          simp [h, this]
      simp only
      rw [e1]
      cases hb : (n != i && opn G n)
      · simp
      · by_cases h3 : z.to < x.fr
        · simp [h3, stays]
        · simp [h3, stays]

theorem nx_filter (acts : List PA) (G i : Nat) (x : PA) (ok : Bool) : opl acts (nxTo acts G i x ok acts.length).1 acts.length = (opl acts (G ||| 2 ^ i) acts.length).filter (stays x) :=
  opl_filter acts _ _ _ _ (fun j y hj hy => by rw [nx_open acts G i x ok _ j y hy]; simp [hj])

theorem mem_opl (acts : List PA) (G : Nat) (x : PA) : ∀ n, x ∈ opl acts G n → ∃ i, i < n ∧ acts[i]? = some x ∧ opn G i = true
  | 0, h => by simp [opl] at h
  | n + 1, h => by
    rw [opl, List.mem_append] at h
    rcases h with h | h
    · obtain ⟨i, h1, h2, h3⟩ := mem_opl acts G x n h
      exact ⟨i, by omega, h2, h3⟩
    · split at h
      · exact ⟨n, by omega, by simpa using h, ‹_›⟩
      · simp at h

theorem ord_of_feas {acts : List PA} {fin : PK} {G : Nat} {k : PK} (h : Feas acts fin G k) : Ord (opl acts G acts.length) k fin := by
  induction h with
  | stop G hs =>
    refine ⟨[], opl acts G acts.length, .refl _, fun y hy => ?_, .nil, rfl⟩
    rw [sure_opl, List.any_eq_false] at hs
    simpa using hs y hy
  | step G k i x hx ho hok hf ih =>
    obtain ⟨s, rest, hp, hr, hpw, hrun⟩ := ih
    have hlt : i < acts.length := (List.getElem?_eq_some_iff.1 hx).1
    rw [nx_ok, Bool.and_eq_true, List.all_eq_true] at hok
    rw [nx_filter] at hp
    have hc := opl_cons acts G i x hx ho acts.length hlt
    refine ⟨x :: s, rest ++ (opl acts (G ||| 2 ^ i) acts.length).filter (fun y => !stays x y), ?_, ?_, ?_, ?_⟩
    · refine List.Perm.trans ?_ hc.symm
      rw [List.cons_append, ← List.append_assoc]
      exact ((hp.append_right _).trans (List.filter_append_perm _ _)).cons x
    · intro y hy
      rcases List.mem_append.1 hy with h | h
      · exact hr y h
      · rw [List.mem_filter] at h
        have := hok.2 y h.1
        have h2 := h.2
        cases hst : stays x y <;> simp_all
    · refine List.pairwise_cons.2 ⟨fun b hb => ?_, hpw⟩
      have : b ∈ (opl acts (G ||| 2 ^ i) acts.length).filter (stays x) := hp.mem_iff.1 (List.mem_append_left _ hb)
      have h2 := (List.mem_filter.1 this).2
      simp [stays] at h2
      exact h2
    · simp only [runs]
      rw [if_pos hok.1]
      exact hrun

theorem feas_of_ord {acts : List PA} {fin : PK} : ∀ (s : List PA) (G : Nat) (k : PK) (rest : List PA), (s ++ rest).Perm (opl acts G acts.length) → (∀ y ∈ rest, y.sure = false) → s.Pairwise (fun a b => a.fr ≤ b.to) → runs k s = some fin → Feas acts fin G k := by
  intro s
  induction s with
  | nil =>
    intro G k rest hp hr _ hrun
    simp [runs] at hrun
    subst hrun
    refine .stop G ?_
    rw [sure_opl, List.any_eq_false]
    intro y hy
    simpa using hr y (hp.mem_iff.2 hy)
  | cons x s ih =>
    intro G k rest hp hr hpw hrun
    obtain ⟨i, hlt, hx, ho⟩ := mem_opl acts G x _ (hp.mem_iff.1 (by simp))
    have hc := opl_cons acts G i x hx ho acts.length hlt
    have hp2 : (s ++ rest).Perm (opl acts (G ||| 2 ^ i) acts.length) := (hp.trans hc).cons_inv
    simp only [runs] at hrun
    split at hrun
    · rename_i hbo
      obtain ⟨h1, h2⟩ := List.pairwise_cons.1 hpw
      have hs : s.filter (stays x) = s := List.filter_eq_self.2 (fun b hb => by have := h1 b hb; simp [stays]; omega)
      have hok : (nxTo acts G i x (behindOf k x).2 acts.length).2 = true := by
        rw [nx_ok, Bool.and_eq_true, List.all_eq_true]
        refine ⟨hbo, fun y hy => ?_⟩
        rcases List.mem_append.1 (hp2.mem_iff.2 hy) with h | h
        · have := h1 y h
          have : stays x y = true := by simp [stays]; omega
          simp [this]
        · simp [hr y h]
      refine .step G k i x hx ho hok (ih _ _ (rest.filter (stays x)) ?_ ?_ h2 hrun)
      · rw [nx_filter]
        have := hp2.filter (stays x)
        rw [List.filter_append, hs] at this
        exact this
      · intro y hy
        exact hr y (List.mem_filter.1 hy).1
    · cases hrun

theorem opl_zero (acts : List PA) : ∀ n, opl acts 0 n = acts.take n
  | 0 => by simp [opl]
  | n + 1 => by
    rw [opl, opl_zero acts n, List.take_add_one]
    simp [opn]

theorem feas_iff (acts : List PA) (k fin : PK) : Feas acts fin 0 k ↔ Ord acts k fin := by
  have e : opl acts 0 acts.length = acts := by rw [opl_zero, List.take_length]
  constructor
  · intro h
    have := ord_of_feas h
    rwa [e] at this
  · rintro ⟨s, rest, hp, hr, hpw, hrun⟩
    exact feas_of_ord s 0 k rest (by rw [e]; exact hp) hr hpw hrun

theorem can_iff (v : ByteArray) (b : Bool) (acts : List PA) (e : ByteArray) (l : Bool) : Can v b acts e l ↔ acts.length ≤ 20 ∧ Ord acts (keyOf' v b) (keyOf' e l) := by
  unfold Can
  rw [feas_iff]

theorem Ord.perm {a b : List PA} {k fin : PK} (h : Ord a k fin) (hp : a.Perm b) : Ord b k fin := by
  obtain ⟨s, rest, h1, h2, h3, h4⟩ := h
  exact ⟨s, rest, h1.trans hp, h2, h3, h4⟩
theorem can_perm {v : ByteArray} {b : Bool} {x y : List PA} {e : ByteArray} {l : Bool} (h : Can v b x e l) (hp : x.Perm y) : Can v b y e l := by
  rw [can_iff] at h ⊢
  exact ⟨by rw [← hp.length_eq]; exact h.1, h.2.perm hp⟩

/-! LinNone -/
theorem can_nil (v : ByteArray) (b : Bool) (e : ByteArray) (l : Bool) : Can v b [] e l ↔ keyOf' v b = keyOf' e l := by
  rw [can_iff]
  constructor
  · rintro ⟨_, s, rest, hp, _, _, hr⟩
    have := hp.eq_nil
    rw [List.append_eq_nil_iff] at this
    rw [this.1] at hr
    simpa [runs] using hr
  · intro h
    exact ⟨by simp, [], [], by simp, by simp, .nil, by rw [h]; rfl⟩
theorem key_same (v : ByteArray) (b : Bool) (e : ByteArray) (l : Bool) : keyOf' v b = keyOf' e l ↔ b = l ∧ (b = true → v = e) := by
  unfold keyOf'
  cases b <;> cases l <;> simp
theorem can_one (v : ByteArray) (b : Bool) (x : PA) (hs : x.sure = true) (e : ByteArray) (l : Bool) : Can v b [x] e l ↔ (behindOf (keyOf' v b) x).2 = true ∧ (behindOf (keyOf' v b) x).1 = keyOf' e l := by
  rw [can_iff]
  constructor
  · rintro ⟨_, s, rest, hp, hr, _, hrun⟩
    match s, hp, hrun with
    | [], hp, hrun =>
      have := hr x (hp.mem_iff.2 (by simp))
      rw [hs] at this
      cases this
    | [y], hp, hrun =>
      have : y = x := by simpa using hp.mem_iff.1 (by simp : y ∈ [y] ++ rest)
      subst this
      simp only [runs] at hrun
      split at hrun
      · exact ⟨‹_›, by simpa using hrun⟩
      · cases hrun
    | y :: z :: t, hp, hrun =>
      have := hp.length_eq
      simp at this
  · rintro ⟨h1, h2⟩
    refine ⟨by simp, [x], [], by simp, by simp, by simp, ?_⟩
    simp [runs, h1, h2]

/-! LinApart -/
theorem can_apart {v : ByteArray} {i : Bool} {a b : List PA} {m : ByteArray} {j : Bool} {e : ByteArray} {l : Bool} (ha : ∀ x ∈ a, x.fr ≤ 999) (hb : ∀ y ∈ b, 999 ≤ y.to)
    (h1 : Can v i a m j) (h2 : Can m j b e l) (hl : a.length + b.length ≤ 20) : Can v i (a ++ b) e l := by
  rw [can_iff] at *
  obtain ⟨_, s, rest, p1, r1, w1, u1⟩ := h1
  obtain ⟨_, t, rest', p2, r2, w2, u2⟩ := h2
  refine ⟨by simpa using hl, s ++ t, rest ++ rest', ?_, ?_, ?_, ?_⟩
  · have h := p1.append p2
    refine List.Perm.trans ?_ h
    rw [List.append_assoc, List.append_assoc]
    refine List.Perm.append_left s ?_
    rw [← List.append_assoc, ← List.append_assoc]
    exact List.Perm.append_right _ List.perm_append_comm
  · intro y hy
    rcases List.mem_append.1 hy with h | h
    · exact r1 y h
    · exact r2 y h
  · refine List.pairwise_append.2 ⟨w1, w2, fun x hx y hy => ?_⟩
    have := ha x (p1.mem_iff.1 (List.mem_append_left _ hx))
    have := hb y (p2.mem_iff.1 (List.mem_append_left _ hy))
    omega
  · rw [runs_append s t _ _ u1]
    exact u2

/-- The times of acts, later. -/
def later (d : Int) (x : PA) : PA := ⟨x.fr + d, x.to + d, x.kind, x.val, x.found, x.sure⟩
theorem runs_later (d : Int) : ∀ (s : List PA) (k : PK), runs k (s.map (later d)) = runs k s
  | [], k => rfl
  | x :: s, k => by
    simp only [List.map_cons, runs]
    have e : behindOf k (later d x) = behindOf k x := rfl
    rw [e]
    split
    · exact runs_later d s _
    · rfl
theorem can_later (d : Int) {v : ByteArray} {i : Bool} {a : List PA} {e : ByteArray} {l : Bool} (h : Can v i a e l) : Can v i (a.map (later d)) e l := by
  rw [can_iff] at *
  obtain ⟨h0, s, rest, p, r, w, u⟩ := h
  refine ⟨by simpa using h0, s.map (later d), rest.map (later d), ?_, ?_, ?_, ?_⟩
  · rw [← List.map_append]; exact p.map _
  · intro y hy
    obtain ⟨z, hz, rfl⟩ := List.mem_map.1 hy
    exact r z hz
  · rw [List.pairwise_map]
    refine w.imp fun {a b} h => ?_
    simp only [later]; omega
  · rw [runs_later]; exact u

/-! LinMore -/
/-- An act that may stand in another one's place. -/
def Wider (x y : PA) : Prop := y.fr ≤ x.fr ∧ x.to ≤ y.to ∧ (x.sure = false → y.sure = false) ∧ ∀ k, (behindOf k x).2 = true → behindOf k y = behindOf k x
theorem runs_wider {s1 s2 : List PA} {x y : PA} (h : Wider x y) : ∀ k fin, runs k (s1 ++ x :: s2) = some fin → runs k (s1 ++ y :: s2) = some fin := by
  induction s1 with
  | nil =>
    intro k fin hr
    simp only [List.nil_append, runs] at hr ⊢
    split at hr
    · rw [h.2.2.2 k ‹_›, if_pos ‹_›]; exact hr
    · cases hr
  | cons z s ih =>
    intro k fin hr
    simp only [List.cons_append, runs] at hr ⊢
    split at hr
    · rw [if_pos ‹_›]; exact ih _ _ hr
    · cases hr
theorem ord_wider {l1 l2 : List PA} {x y : PA} {k fin : PK} (hw : Wider x y) (h : Ord (l1 ++ x :: l2) k fin) : Ord (l1 ++ y :: l2) k fin := by
  obtain ⟨s, rest, p, r, w, u⟩ := h
  have hx : x ∈ s ++ rest := p.mem_iff.2 (by simp)
  rcases List.mem_append.1 hx with hx | hx
  · obtain ⟨s1, s2, rfl⟩ := List.append_of_mem hx
    refine ⟨s1 ++ y :: s2, rest, ?_, r, ?_, runs_wider hw _ _ u⟩
    · have h1 : (x :: (s1 ++ s2 ++ rest)).Perm (x :: (l1 ++ l2)) := by
        refine List.Perm.trans ?_ (p.trans List.perm_middle)
        rw [List.append_assoc, List.append_assoc]
        exact List.perm_middle.symm
      refine List.Perm.trans ?_ ((h1.cons_inv.cons y).trans List.perm_middle.symm)
      rw [List.append_assoc, List.append_assoc]
      exact List.perm_middle
    · rw [List.pairwise_append, List.pairwise_cons] at w ⊢
      refine ⟨w.1, ⟨fun b hb => ?_, w.2.1.2⟩, fun a ha b hb => ?_⟩
      · have := w.2.1.1 b hb; have := hw.1; omega
      · rcases List.mem_cons.1 hb with rfl | hb
        · have := w.2.2 a ha x (by simp); have := hw.2.1; omega
        · exact w.2.2 a ha b (by simp [hb])
  · obtain ⟨s1, s2, rfl⟩ := List.append_of_mem hx
    refine ⟨s, s1 ++ y :: s2, ?_, ?_, w, u⟩
    · have h1 : (x :: (s ++ (s1 ++ s2))).Perm (x :: (l1 ++ l2)) := by
        refine List.Perm.trans ?_ (p.trans List.perm_middle)
        rw [← List.append_assoc, ← List.append_assoc]
        exact List.perm_middle.symm
      refine List.Perm.trans ?_ ((h1.cons_inv.cons y).trans List.perm_middle.symm)
      rw [← List.append_assoc, ← List.append_assoc]
      exact List.perm_middle
    · intro z hz
      rcases List.mem_append.1 hz with h | h
      · exact r z (by simp [h])
      · rcases List.mem_cons.1 h with rfl | h
        · exact hw.2.2.1 (r x (by simp))
        · exact r z (by simp [h])
theorem can_wider {v : ByteArray} {i : Bool} {l1 l2 : List PA} {x y : PA} {e : ByteArray} {l : Bool} (hw : Wider x y) (h : Can v i (l1 ++ x :: l2) e l) : Can v i (l1 ++ y :: l2) e l := by
  rw [can_iff] at *
  exact ⟨by simpa using h.1, ord_wider hw h.2⟩
theorem can_set {v : ByteArray} {i : Bool} {acts : List PA} {k : Nat} {x y : PA} {e : ByteArray} {l : Bool} (hx : acts[k]? = some x) (hw : Wider x y) (h : Can v i acts e l) : Can v i (acts.set k y) e l := by
  obtain ⟨hk, hx⟩ := List.getElem?_eq_some_iff.1 hx
  have e1 : acts = acts.take k ++ x :: acts.drop (k + 1) := by
    rw [← hx, ← List.drop_eq_getElem_cons hk, List.take_append_drop]
  have e2 : acts.set k y = acts.take k ++ y :: acts.drop (k + 1) := by
    rw [List.set_eq_take_append_cons_drop, if_pos hk]
  rw [e2]
  rw [e1] at h
  exact can_wider hw h
theorem wider_long (x : PA) (d e : Int) (hd : 0 ≤ d) (he : 0 ≤ e) : Wider x ⟨x.fr - d, x.to + e, x.kind, x.val, x.found, x.sure⟩ := ⟨by simp; omega, by simp; omega, fun h => h, fun _ _ => rfl⟩
theorem wider_unsure (x : PA) : Wider x ⟨x.fr, x.to, x.kind, x.val, x.found, false⟩ := by
  refine ⟨by simp, by simp, fun _ => rfl, fun k h => ?_⟩
  have hu : unfit k x = false := by
    unfold behindOf at h
    split at h
    · cases h
    · exact Bool.not_eq_true _ ▸ ‹_›
  unfold behindOf
  have h2 : unfit k ⟨x.fr, x.to, x.kind, x.val, x.found, false⟩ = false := by simp [unfit]
  rw [hu, h2]
theorem can_extra {v : ByteArray} {i : Bool} {acts : List PA} {x : PA} {e : ByteArray} {l : Bool} (hx : x.sure = false) (hl : acts.length + 1 ≤ 20) (h : Can v i acts e l) : Can v i (acts ++ [x]) e l := by
  rw [can_iff] at *
  obtain ⟨h0, s, rest, p, r, w, u⟩ := h
  refine ⟨by simpa using hl, s, rest ++ [x], by rw [← List.append_assoc]; exact p.append_right _, ?_, w, u⟩
  intro y hy
  rcases List.mem_append.1 hy with h | h
  · exact r y h
  · have : y = x := by simpa using h
    rw [this]; exact hx

/-! LinDone -/
/-- An act that is done in its turn. -/
structure PT where
  kind : Nat
  val : ByteArray
  long : Nat
  sure : Bool
def turnKind (t : PT) : Int := 1 + (t.kind % 3 : Nat)
def turnKey (k : PK) (t : PT) : PK := if turnKind t = 1 then ⟨t.val, true⟩ else if turnKind t = 3 then ⟨⟨#[]⟩, false⟩ else k
def turnAct (i : Nat) (k : PK) (t : PT) : PA :=
  ⟨10 * (i : Int) - (t.long % 40 : Nat), 10 * (i : Int) + (t.long % 30 : Nat), turnKind t, if turnKind t = 1 then t.val else if turnKind t = 2 ∧ k.is = true then k.val else ⟨#[]⟩, k.is, t.sure⟩
def doneTo (l : List PT) : Nat → List PA × PK
  | 0 => ([], ⟨⟨#[]⟩, false⟩)
  | n + 1 => match l[n]? with
    | some t => ((doneTo l n).1 ++ [turnAct n (doneTo l n).2 t], turnKey (doneTo l n).2 t)
    | none => doneTo l n
theorem turn_behind (i : Nat) (k : PK) (t : PT) : behindOf k (turnAct i k t) = (turnKey k t, true) := by
  have h3 : turnKind t = 1 ∨ turnKind t = 2 ∨ turnKind t = 3 := by unfold turnKind; omega
  have hu : unfit k (turnAct i k t) = false := by
    unfold unfit turnAct
    rcases h3 with h | h | h
    · simp [h]
    · simp [h]
      cases k.is <;> simp
    · simp [h]
  unfold behindOf
  rw [hu]
  unfold turnKey
  rcases h3 with h | h | h <;> simp [turnAct, h]
theorem done_from (l : List PT) : ∀ n, ∀ x ∈ (doneTo l n).1, x.fr ≤ 10 * (n : Int)
  | 0 => by simp [doneTo]
  | n + 1 => by
    intro x hx
    rw [doneTo] at hx
    have ih := done_from l n
    split at hx
    · simp only at hx
      rcases List.mem_append.1 hx with h | h
      · have := ih x h; omega
      · have : x = turnAct n (doneTo l n).2 ‹PT› := by simpa using h
        rw [this]; simp only [turnAct]; omega
    · have := ih x hx; omega
theorem done_runs (l : List PT) : ∀ n, runs ⟨⟨#[]⟩, false⟩ (doneTo l n).1 = some (doneTo l n).2 ∧ (doneTo l n).1.Pairwise (fun a b => a.fr ≤ b.to)
  | 0 => ⟨rfl, .nil⟩
  | n + 1 => by
    obtain ⟨h1, h2⟩ := done_runs l n
    rw [doneTo]
    split
    · refine ⟨?_, ?_⟩
      · simp only
        rw [runs_append _ _ _ _ h1]
        simp [runs, turn_behind]
      · simp only
        refine List.pairwise_append.2 ⟨h2, by simp, fun a ha b hb => ?_⟩
        have : b = turnAct n (doneTo l n).2 ‹PT› := by simpa using hb
        rw [this]
        have := done_from l n a ha
        simp only [turnAct]; omega
    · exact ⟨h1, h2⟩
theorem done_len (l : List PT) : ∀ n, n ≤ l.length → (doneTo l n).1.length = n
  | 0, _ => rfl
  | n + 1, h => by
    rw [doneTo, List.getElem?_eq_getElem (by omega)]
    simp [done_len l n (by omega)]
theorem done_key (l : List PT) (n : Nat) : (doneTo l n).2.is = false → (doneTo l n).2.val = ⟨#[]⟩ := by
  induction n with
  | zero => intro _; rfl
  | succ n ih =>
    rw [doneTo]
    split
    · simp only [turnKey]
      split
      · intro h; cases h
      · split
        · intro _; rfl
        · exact ih
    · exact ih
theorem can_done (l : List PT) (h : l.length ≤ 20) : Can ⟨#[]⟩ false (doneTo l l.length).1 (doneTo l l.length).2.val (doneTo l l.length).2.is := by
  rw [can_iff]
  obtain ⟨h1, h2⟩ := done_runs l l.length
  refine ⟨by rw [done_len l _ (Nat.le_refl _)]; exact h, _, [], by simp, by simp, h2, ?_⟩
  have e1 : keyOf' ⟨#[]⟩ false = ⟨⟨#[]⟩, false⟩ := rfl
  have e2 : keyOf' (doneTo l l.length).2.val (doneTo l l.length).2.is = (doneTo l l.length).2 := by
    have := done_key l l.length
    revert this
    generalize (doneTo l l.length).2 = k
    obtain ⟨v, i⟩ := k
    intro this
    cases i
    · simp at this; subst this; rfl
    · rfl
  rw [e1, e2]
  exact h1
/-- A list that is told from another place on. -/
def turned (acts : List PA) (t : Nat) : Nat → List PA
  | 0 => []
  | k + 1 => turned acts t k ++ (acts[(k + t) % acts.length]?).toList
theorem turned_len (acts : List PA) (t : Nat) : ∀ k, k ≤ acts.length → (turned acts t k).length = k
  | 0, _ => rfl
  | k + 1, h => by
    have : (k + t) % acts.length < acts.length := Nat.mod_lt _ (by omega)
    rw [turned, List.getElem?_eq_getElem this]
    simp [turned_len acts t k (by omega)]
theorem turned_at (acts : List PA) (t : Nat) : ∀ k, k ≤ acts.length → ∀ i, i < k → (turned acts t k)[i]? = acts[(i + t) % acts.length]?
  | 0, _, i, h => by omega
  | k + 1, hk, i, h => by
    have hm : (k + t) % acts.length < acts.length := Nat.mod_lt _ (by omega)
    have hl := turned_len acts t k (by omega)
    rw [turned]
    by_cases e : i = k
    · subst e
      rw [List.getElem?_append_right (by omega), hl, List.getElem?_eq_getElem hm]
      simp
    · rw [List.getElem?_append_left (by omega)]
      exact turned_at acts t k (by omega) i (by omega)
theorem turned_perm (acts : List PA) (t : Nat) : acts.Perm (turned acts t acts.length) := by
  rcases Nat.eq_zero_or_pos acts.length with h0 | h0
  · have : acts = [] := List.eq_nil_of_length_eq_zero h0
    subst this
    simp [turned]
  · have hr : t % acts.length < acts.length := Nat.mod_lt _ h0
    have e : turned acts t acts.length = acts.drop (t % acts.length) ++ acts.take (t % acts.length) := by
      refine List.ext_getElem? fun i => ?_
      by_cases hi : i < acts.length
      · rw [turned_at acts t _ (Nat.le_refl _) i hi, Nat.add_mod, Nat.mod_eq_of_lt hi]
        by_cases h : i + t % acts.length < acts.length
        · rw [Nat.mod_eq_of_lt h, List.getElem?_append_left (by rw [List.length_drop]; omega), List.getElem?_drop, Nat.add_comm]
        · rw [List.getElem?_append_right (by rw [List.length_drop]; omega), List.length_drop, List.getElem?_take]
          have e1 : (i + t % acts.length) % acts.length = i + t % acts.length - acts.length := by
            rw [Nat.mod_eq_sub_mod (by omega), Nat.mod_eq_of_lt (by omega)]
          rw [e1, if_pos (by omega)]
          congr 1
          omega
      · rw [List.getElem?_eq_none (by rw [turned_len acts t _ (Nat.le_refl _)]; omega), List.getElem?_eq_none (by simp; omega)]
    rw [e]
    have := List.perm_append_comm (l₁ := acts.take (t % acts.length)) (l₂ := acts.drop (t % acts.length))
    rw [List.take_append_drop] at this
    exact this
end Go.Proofs.Ytdblecmelmeibaa
