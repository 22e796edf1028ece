/- Where the index is sound a look from the root on ends where one from the first leaf on does: plain facts. -/
import Derived.Test.YtliaemoomhfcdaaSoundP
namespace Go.Proofs.Ytliaemoomhfcdaa
open Go.RowKit Go.Proofs.YtliaemoomhfcdaaW.PrintWords
set_option linter.unusedVariables false
set_option linter.unusedSimpArgs false
set_option maxRecDepth 1000000

theorem ltS_list {a b c : ByteArray} (h : b.toList = c.toList) : ltS a b = ltS a c := by unfold ltS; rw [h]
/-- A node below that a key may be in. -/
def Good (ws : List Int) (key : ByteArray) (next : List Int) (c : Int) : Prop := c ∈ next ∧ (lowRead ws c).2 = 0 ∧ ltS key (lowRead ws c).1 = false
theorem leads_good {ws next : List Int} {key : ByteArray} : ∀ (sl : List Int) (first : Bool) (low : ByteArray) (acc : Int), LeadsOk ws next first low sl →
    (Good ws key next acc ∨ ∃ s t, sl = s :: t ∧ ltS key (recRead ws s).1.key = false) → Good ws key next (sl.foldl (childStep ws key) acc)
  | [], _, _, acc, _, h => by
    rcases h with h | ⟨s, t, h, _⟩
    · exact h
    · cases h
  | s :: t, first, low, acc, h, hg => by
    obtain ⟨h1, h2, h3, h4, h5, h6, h7, h8⟩ := h
    rw [List.foldl_cons]
    refine leads_good t false _ _ h8 (.inl ?_)
    unfold childStep
    rw [if_pos h1, if_pos h2]
    cases hk : ltS key (recRead ws s).1.key with
    | true =>
      rw [if_pos rfl]
      rcases hg with hg | ⟨s', t', he, hl⟩
      · exact hg
      · injection he with he; subst he; rw [hl] at hk; cases hk
    | false =>
      rw [if_neg (by simp)]
      exact ⟨h5, h6, by rw [ltS_list h7]; exact hk⟩
theorem child_good {ws next sl : List Int} {key low : ByteArray} (h : LeadsOk ws next true low sl) (hne : sl ≠ []) (hk : ltS key low = false) : Good ws key next (childOf ws sl key) := by
  cases sl with
  | nil => exact absurd rfl hne
  | cons s t => exact leads_good _ true low 0 h (.inr ⟨s, t, rfl, by rw [ltS_list (h.2.2.1 rfl)]; exact hk⟩)
theorem from_of {ws : List Int} {b : Int} (h1 : (nodeRead ws b).2 = 0) (h2 : (lowRead ws b).2 = 0) : fromRead ws b = ((nodeRead ws b).1.level, (lowRead ws b).1, true) := by
  unfold fromRead
  rw [if_pos h1, h2]
  rfl
/-- A step at a node above the leaves. -/
theorem down_upper {ws : List Int} {b : Int} {key : ByteArray} (h1 : (nodeRead ws b).2 = 0) (h2 : 0 < (nodeRead ws b).1.level) (h3 : (nodeRead ws b).1.next ≠ b)
    (hn : (nodeRead ws b).1.next ≠ 0 → fromRead ws (nodeRead ws b).1.next = ((nodeRead ws b).1.level, (lowRead ws (nodeRead ws b).1.next).1, true))
    (hc0 : childOf ws (nodeRead ws b).1.slots key ≠ 0) (hc : fromRead ws (childOf ws (nodeRead ws b).1.slots key) = ((nodeRead ws b).1.level - 1, (lowRead ws (childOf ws (nodeRead ws b).1.slots key)).1, true))
    (hl : ltS key (lowRead ws (childOf ws (nodeRead ws b).1.slots key)).1 = false) :
    downRead ws b key 0 = if (nodeRead ws b).1.next = 0 then (childOf ws (nodeRead ws b).1.slots key, 0) else if ltS key (lowRead ws (nodeRead ws b).1.next).1 = true then (childOf ws (nodeRead ws b).1.slots key, 0) else ((nodeRead ws b).1.next, 0) := by
  have hch : downChild ws b key 0 (nodeRead ws b).1 = (childOf ws (nodeRead ws b).1.slots key, 0) := by
    unfold downChild
    rw [if_pos h2, if_neg hc0, hc, if_neg (by simp), if_neg (by simp), hl, if_neg (by simp)]
  unfold downRead downSide
  rw [if_neg (by simpa using h1), if_neg (by omega)]
  by_cases h0 : (nodeRead ws b).1.next = 0
  · rw [if_pos h0, if_pos h0]
    exact hch
  · rw [if_neg h0, if_neg h0, if_neg h3, hn h0, if_neg (by simp), if_neg (by simp)]
    cases hk : ltS key (lowRead ws (nodeRead ws b).1.next).1 with
    | true => rw [if_pos rfl, if_pos rfl]; exact hch
    | false => rw [if_neg (show ¬ (false = true) by simp), if_neg (show ¬ (false = true) by simp)]
/-- A look at a level above the leaves ends where every look at a good node below does. -/
theorem find_upper {ws next : List Int} {key : ByteArray} {n : Nat} {e : Int} {F : Nat}
    (hlv : ∀ x ∈ next, (nodeRead ws x).2 = 0 ∧ (nodeRead ws x).1.level = (n : Int) ∧ x ≠ 0)
    (hlow : ∀ x, Good ws key next x → ∀ f, F ≤ f → findGo ws key 0 f x = (e, 0)) :
    ∀ (t : List Int) (b : Int) (first : Bool) (last : ByteArray), LCh ws ((n + 1 : Nat) : Int) b t → LevOk ws next first last t → t.Nodup → t ≠ [] → ltS key (lowRead ws b).1 = false →
    ∀ f, t.length + F ≤ f → findGo ws key 0 f b = (e, 0)
  | [], _, _, _, _, _, _, hne, _, _, _ => absurd rfl hne
  | y :: t, b, first, last, hc, ho, hd, _, hk, f, hf => by
    obtain ⟨rfl, h0, h1, h2, ht⟩ := hc
    obtain ⟨o1, o2, o3, o4, o5, o6⟩ := ho
    simp only [List.length_cons] at hf
    obtain ⟨f, rfl⟩ : ∃ m, f = m + 1 := ⟨f - 1, by omega⟩
    obtain ⟨hy, hd2⟩ := List.nodup_cons.1 hd
    have hg := child_good (key := key) o4 o5 hk
    obtain ⟨c1, c2, c3⟩ := hlv _ hg.1
    have hcf := from_of c1 hg.2.1
    rw [c2] at hcf
    have hlev : (n : Int) = (nodeRead ws y).1.level - 1 := by rw [h2]; omega
    rw [hlev] at hcf
    have hnx : (nodeRead ws y).1.next ≠ y := by
      intro he
      cases t with
      | nil => exact h0 (he ▸ ht)
      | cons z t => exact hy (by rw [← he, ht.1]; exact List.mem_cons_self)
    have hdn := down_upper (key := key) h1 (by rw [h2]; omega) hnx (fun hz => by
      cases t with
      | nil => exact absurd ht hz
      | cons z t =>
        obtain ⟨rfl, _, k1, k2, _⟩ := ht
        rw [from_of k1 o6.1, k2, h2]) c3 hcf hg.2.2
    have hcy : childOf ws (nodeRead ws y).1.slots key ≠ y := by
      intro he
      rw [he] at c2
      rw [h2] at c2
      omega
    have hchild : downRead ws y key 0 = (childOf ws (nodeRead ws y).1.slots key, 0) → findGo ws key 0 (f + 1) y = (e, 0) := by
      intro hh
      rw [findGo_succ, hh]
      simp only
      rw [if_neg (by simp), if_neg hcy]
      exact hlow _ hg f (by omega)
    by_cases hz : (nodeRead ws y).1.next = 0
    · rw [if_pos hz] at hdn; exact hchild hdn
    rw [if_neg hz] at hdn
    cases hkn : ltS key (lowRead ws (nodeRead ws y).1.next).1 with
    | true => rw [hkn, if_pos rfl] at hdn; exact hchild hdn
    | false =>
      rw [hkn, if_neg (by simp)] at hdn
      rw [findGo_succ, hdn]
      simp only
      rw [if_neg (by simp), if_neg hnx]
      exact find_upper hlv hlow t _ _ _ ht o6 hd2 (fun he => by rw [he] at ht; exact hz ht) hkn f (by omega)
/-- Where a look for a key among leaves ends. -/
def endOf (ws : List Int) (key : ByteArray) : List Int → Int → Int
  | [], d => d
  | x :: t, d => if ltS key (lowAt ws x) = true then d else endOf ws key t x
theorem find_end {ws : List Int} {key : ByteArray} : ∀ (t : List Int) (b : Int) (f : Bool) (last : ByteArray), Ch ws b t → leavesOk ws f last t = true → t ≠ [] → ltS key (lowAt ws b) = false →
    ∀ n, t.length ≤ n → findGo ws key 0 n b = (endOf ws key t 0, 0)
  | [], _, _, _, _, _, hne, _, _, _ => absurd rfl hne
  | c :: t, b, f, last, hc, ho, _, hk, n, hn => by
    obtain ⟨rfl, h0, h1, h2, h3, ht⟩ := hc
    obtain ⟨ho1, ho2⟩ := leavesOk_cons ho
    simp only [List.length_cons] at hn
    obtain ⟨n, rfl⟩ : ∃ m, n = m + 1 := ⟨n - 1, by omega⟩
    have hnext : (nodeRead ws c).1.next ≠ 0 → fromRead ws (nodeRead ws c).1.next = (0, lowAt ws (nodeRead ws c).1.next, true) := by
      intro hz
      cases t with
      | nil => exact absurd ht hz
      | cons d t =>
        obtain ⟨rfl, k0, k1, k2, k3, kt⟩ := ht
        exact from_leaf k1 (leafOk_parts (leavesOk_cons ho2).1).2.1 k2
    have hd := down_leaf (key := key) h1 h2 h3 hnext
    rw [endOf, if_neg (by rw [hk]; simp)]
    have hstay : downRead ws c key 0 = (c, 0) → findGo ws key 0 (n + 1) c = (c, 0) := by
      intro hh
      rw [findGo_succ, hh]
      simp
    cases t with
    | nil => rw [if_pos (show (nodeRead ws c).1.next = 0 from ht)] at hd; rw [hstay hd]; rfl
    | cons d t =>
      have ht' := ht
      obtain ⟨rfl, k0, k1, k2, k3, kt⟩ := ht
      rw [if_neg k0] at hd
      rw [endOf]
      cases hkn : ltS key (lowAt ws (nodeRead ws c).1.next) with
      | true => rw [hkn, if_pos rfl] at hd; rw [hstay hd, if_pos rfl]
      | false =>
        rw [hkn, if_neg (by simp)] at hd
        rw [if_neg (by simp), findGo_succ, hd]
        simp only
        rw [if_neg (by simp), if_neg h3]
        have := find_end _ _ false _ ht' ho2 (by simp) hkn n (by simp only [List.length_cons] at hn ⊢; omega)
        rw [this, endOf, if_neg (by rw [hkn]; simp)]
/-- The end is the same from every leaf on that the key is not ahead of. -/
theorem end_suffix {ws : List Int} {key : ByteArray} {x : Int} {t : List Int} (hk : ltS key (lowAt ws x) = false) : ∀ (p : List Int) (f : Bool) (last : ByteArray) (d : Int), leavesOk ws f last (p ++ x :: t) = true →
    endOf ws key (p ++ x :: t) d = endOf ws key (x :: t) 0
  | [], f, last, d, h => by
    show endOf ws key (x :: t) d = _
    rw [endOf, endOf, if_neg (by rw [hk]; simp), if_neg (by rw [hk]; simp)]
  | y :: p, f, last, d, h => by
    obtain ⟨h1, h2⟩ := leavesOk_cons h
    have hyx := lows_above _ _ h2 x (by simp)
    have hy : ltS key (lowAt ws y) = false := by
      cases hh : ltS key (lowAt ws y) with
      | false => rfl
      | true => have := ltS_trans hh hyx; rw [hk] at this; cases this
    show endOf ws key (y :: (p ++ x :: t)) d = _
    rw [endOf, if_neg (by rw [hy]; simp)]
    exact end_suffix hk p false _ y h2
theorem Ch_suffix {ws : List Int} {x : Int} {t : List Int} : ∀ (p : List Int) (b : Int), Ch ws b (p ++ x :: t) → Ch ws x (x :: t)
  | [], b, h => by obtain ⟨rfl, _⟩ := id h; exact h
  | y :: p, b, h => Ch_suffix p _ h.2.2.2.2.2
theorem leavesOk_suffix {ws : List Int} {x : Int} {t : List Int} : ∀ (p : List Int) (f : Bool) (last : ByteArray), leavesOk ws f last (p ++ x :: t) = true → ∃ f2 last2, leavesOk ws f2 last2 (x :: t) = true
  | [], f, last, h => ⟨f, last, h⟩
  | y :: p, f, last, h => leavesOk_suffix p _ _ (leavesOk_cons h).2
theorem LCh_suffix {ws : List Int} {lv x : Int} {t : List Int} : ∀ (p : List Int) (b : Int), LCh ws lv b (p ++ x :: t) → LCh ws lv x (x :: t)
  | [], b, h => by obtain ⟨rfl, _⟩ := id h; exact h
  | y :: p, b, h => LCh_suffix p _ h.2.2.2.2
theorem LevOk_suffix {ws next : List Int} {x : Int} {t : List Int} : ∀ (p : List Int) (f : Bool) (last : ByteArray), LevOk ws next f last (p ++ x :: t) → ∃ f2 last2, LevOk ws next f2 last2 (x :: t)
  | [], f, last, h => ⟨f, last, h⟩
  | y :: p, f, last, h => LevOk_suffix p _ _ h.2.2.2.2.2
theorem Ch.ok {ws : List Int} : ∀ {t : List Int} {b : Int}, Ch ws b t → ∀ x ∈ t, (nodeRead ws x).2 = 0 ∧ (nodeRead ws x).1.level = 0 ∧ x ≠ 0
  | [], _, _, x, hx => by cases hx
  | y :: t, b, h, x, hx => by
    obtain ⟨rfl, h0, h1, h2, _, ht⟩ := h
    rcases List.mem_cons.1 hx with rfl | hx
    · exact ⟨h1, h2, h0⟩
    · exact Ch.ok ht x hx
theorem leavesGo_nodup (ws : List Int) : ∀ (n : Nat) (out : List Int) (b : Int) (l : List Int), out.Nodup → leavesGo ws n out b = some l → l.Nodup
  | 0, out, b, l, hd, h => by
    rw [leavesGo] at h
    split at h
    · injection h with h; rw [← h]; exact hd
    · cases h
  | n + 1, out, b, l, hd, h => by
    rw [leavesGo] at h
    split at h
    · injection h with h; rw [← h]; exact hd
    · split at h
      · rename_i hc
        refine leavesGo_nodup ws n _ _ _ ?_ h
        rw [List.nodup_append]
        refine ⟨hd, by simp, ?_⟩
        intro a ha b' hb e
        simp at hb
        subst hb
        subst e
        have := hc.2.2
        simp at this
        exact this ha
      · cases h
theorem leaves_nodup {ws l : List Int} (h : leavesRead ws = some l) : l.Nodup := by
  unfold leavesRead at h
  split at h
  · exact leavesGo_nodup ws _ _ _ _ List.nodup_nil h
  · cases h
/-- From every node of a sound level that the key is not ahead of, a look ends at the same leaf. -/
theorem find_lv {ws lv : List Int} {key : ByteArray} (hlv : leavesRead ws = some lv) (ho : leavesOk ws true ⟨#[]⟩ lv = true) : ∀ {n : Nat} {l : List Int}, Lv ws n l →
    ∃ rest, (l ++ rest).Nodup ∧ (∀ x ∈ l ++ rest, (nodeRead ws x).2 = 0 ∧ (nodeRead ws x).1.level ≤ (n : Int)) ∧ (∀ x ∈ l, (nodeRead ws x).2 = 0 ∧ (nodeRead ws x).1.level = (n : Int) ∧ x ≠ 0) ∧
      ∀ b, Good ws key l b → ∀ f, l.length + rest.length ≤ f → findGo ws key 0 f b = (endOf ws key lv 0, 0) := by
  intro n l h
  induction h with
  | zero l h =>
    rw [hlv] at h
    injection h with h
    subst h
    have hch := leaves_ch hlv
    refine ⟨[], by simpa using leaves_nodup hlv, ?_, ?_, ?_⟩
    · intro x hx
      simp only [List.append_nil] at hx
      obtain ⟨a1, a2, a3⟩ := Ch.ok hch x hx
      exact ⟨a1, by rw [a2]; simp⟩
    · intro x hx
      obtain ⟨a1, a2, a3⟩ := Ch.ok hch x hx
      exact ⟨a1, by rw [a2]; simp, a3⟩
    · intro b ⟨hb, _, hk⟩ f hf
      rw [leavesOk_mem lv _ _ ho b hb] at hk
      obtain ⟨p, t, rfl⟩ := List.append_of_mem hb
      obtain ⟨f2, l2, ho2⟩ := leavesOk_suffix p _ _ ho
      rw [end_suffix hk p _ _ _ ho]
      simp only [List.length_append, List.length_cons, List.length_nil] at hf
      exact find_end _ b f2 l2 (Ch_suffix p _ hch) ho2 (by simp) hk f (by simp; omega)
  | succ n l next c h1 h2 h3 h4 ih =>
    obtain ⟨rest, r1, r2, r3, r4⟩ := ih
    have hl := LCh.ok h1
    refine ⟨next ++ rest, ?_, ?_, ?_, ?_⟩
    · rw [List.nodup_append]
      refine ⟨h2, r1, ?_⟩
      intro a ha b hb e
      subst e
      have e1 := (hl a ha).2.1
      have e2 := (r2 a hb).2
      omega
    · intro x hx
      rcases List.mem_append.1 hx with hx | hx
      · exact ⟨(hl x hx).1, by rw [(hl x hx).2.1]; omega⟩
      · exact ⟨(r2 x hx).1, by have := (r2 x hx).2; omega⟩
    · exact hl
    · intro b ⟨hb, _, hk⟩ f hf
      obtain ⟨p, t, rfl⟩ := List.append_of_mem hb
      obtain ⟨f2, l2, ho2⟩ := LevOk_suffix p _ _ h3
      have hnd : (b :: t).Nodup := (List.nodup_append.1 h2).2.1
      simp only [List.length_append, List.length_cons] at hf
      exact find_upper r3 r4 (b :: t) b f2 l2 (LCh_suffix p _ h1) ho2 hnd (by simp) hk f (by simp only [List.length_cons]; omega)
end Go.Proofs.Ytliaemoomhfcdaa
