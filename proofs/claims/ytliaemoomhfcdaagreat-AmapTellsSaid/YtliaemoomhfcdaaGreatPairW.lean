/- The walks of a search in pairs: the first one at which something holds, and the value of a key. -/
import Derived.Test.YtliaemoomhfcdaaGreatOwnW
namespace Go.Proofs.YtliaemoomhfcdaaGreat
open Go.RowKit Go.Proofs.YtliaemoomhfcdaaGreatW.PrintWords
set_option maxHeartbeats 1000000
set_option maxRecDepth 100000
set_option linter.unusedVariables false
abbrev kp : Kd KV := Kd.pair Kd.string Kd.string
theorem pairs_at {w : World} {A : Option Addr} {n : Nat} {l : List KV} (h : Kd.C kp w A n l) {k : Nat} (hk : k < n) (hn : n = l.length) : ∃ ad p, A = some ad ∧ l[k]? = some p ∧ w.cell? (ad.add (k * 2)) = some (.string p.1) ∧ w.cell? ⟨(ad.add (k * 2)).block, (ad.add (k * 2)).off + 1, none⟩ = some (.string p.2) := by
  obtain ⟨ad, c, e, _, hK, hc0⟩ := Kd.C_get h (⟨#[]⟩, ⟨#[]⟩) (k : Int) (by omega) (by omega)
  have hc : ∀ j u, c[j]? = some u → w.cell? (ad.add (k * 2 + j)) = some u := hc0
  obtain ⟨_, _, rfl, rfl, rfl⟩ := hK
  refine ⟨ad, l[k]'(by omega), e, List.getElem?_eq_getElem _, ?_, ?_⟩
  · have := hc 0 _ rfl
    simpa [List.getD_eq_getElem?_getD, List.getElem?_eq_getElem (show k < l.length by omega)] using this
  · have := hc 1 _ rfl
    rw [add_field _ _ 1 (by omega)] at this
    simpa [List.getD_eq_getElem?_getD, List.getElem?_eq_getElem (show k < l.length by omega)] using this
/-- Where the first one is at which p holds, or -1. -/
def idxP (p : KV → Bool) : List KV → Nat → Int
  | [], _ => -1
  | x :: t, i => if p x then (i : Int) else idxP p t (i + 1)
def PredB (g : Nat) (lb : Array Value) (p : KV → Bool) (w : World) : Prop :=
  ∀ (W : World) (x : KV), Below w.heap.size w W → Calls Tryz.prog g (#[.agg #[.string x.1, .string x.2]] ++ lb) W fun e w' => e = .returned (.bool (p x)) ∧ Below W.heap.size W w'
theorem indexFunc_any (A : Option Addr) (c : Nat) (l : List KV) (p : KV → Bool) (g : Nat) (lb : Array Value) (eg : ∀ args w, (callFunc g args).run Tryz.prog w = .ok (.enter g args) w) (w : World) (h : Kd.C kp w A l.length l) (hn : l.length ≤ 1000000000) (hp : PredB g lb p w) :
    Calls Tryz.prog 57 #[.slice A l.length c, .func (.func g) #[] lb] w fun e w' => e = .returned (.int .i64 (idxP p l 0)) ∧ Below w.heap.size w w' := by
  have HC := Lib.hid h
  have HP := Lib.hid hp
  obtain ⟨r, hr⟩ : ∃ r, r = idxP p l 0 := ⟨_, rfl⟩
  rw [← hr]
  have HR := Lib.hid hr
  clear h hp hr
  go_enter Tryz.func57, Tryz.ntmps57
  go_wp2
  go_loopw [8] (fun i wr => ∃ k : Nat, k ≤ l.length ∧ i = .int .i64 k ∧ Hid (Below w.heap.size w wr) ∧ Hid (r = idxP p (l.drop k) k)) (fun i _ => l.length - (intOf i).toNat)
  case atStart => exact ⟨0, by omega, rfl, Lib.hid (Below.refl _ _), HR⟩
  case round =>
    obtain ⟨k, hk, rfl, HB, HI⟩ := hrel
    by_cases hlt : k < l.length
    rotate_left
    · obtain rfl : k = l.length := by omega
      go_wp2
      go_ret
      refine ⟨?_, HB.out⟩
      have := HI.out
      rw [List.drop_length] at this
      simp only [idxP] at this
      rw [this]; rfl
    obtain ⟨ad, x, hA, hx, hx0, hx1⟩ := pairs_at (Kd.C_below HC.out HB.out) hlt rfl
    subst hA
    have hi := HI.out
    rw [List.drop_eq_getElem_cons hlt, show l[k] = x from (List.getElem?_eq_some_iff.1 hx).2] at hi
    simp only [idxP] at hi
    have hcall := HP.out wr x HB.out
    generalize p x = q at hi hcall
    have HI2 := Lib.hid hi
    clear hi hx
    cases q with
    | true =>
      go_wp2_with (go_at_fn g; refine hcall.mono ?_; rintro e w' ⟨rfl, hb'⟩)
      go_ret
      refine ⟨?_, HB.out.next hb'⟩
      rw [HI2.out]; rfl
    | false =>
      go_wp2_with (go_at_fn g; refine hcall.mono ?_; rintro e w' ⟨rfl, hb'⟩)
      exact ⟨⟨k + 1, by omega, by go_num, Lib.hid (HB.out.next hb'), Lib.hid (by simpa using HI2.out)⟩, by simp [intOf]; omega⟩
theorem idxP_eq (p : KV → Bool) : ∀ (l : List KV) (i : Nat), idxP p l i = if l.any p = true then ((i + l.findIdx p : Nat) : Int) else -1
  | [], _ => rfl
  | x :: t, i => by
    simp only [idxP, List.any_cons, List.findIdx_cons]
    cases hx : p x with
    | true => simp
    | false =>
      rw [idxP_eq p t (i + 1)]
      simp only [Bool.false_eq_true, if_false, Bool.false_or, cond_false]
      split
      · congr 1; omega
      · rfl
theorem findIdx_none (p : KV → Bool) (l : List KV) (h : ¬ l.any p = true) : l.findIdx p = l.length := by
  rw [List.findIdx_eq_length]
  intro x hx
  cases hp : p x with
  | false => rfl
  | true => exact absurd (List.any_eq_true.2 ⟨x, hx, hp⟩) h
theorem firstP_any (A : Option Addr) (c : Nat) (l : List KV) (p : KV → Bool) (g : Nat) (lb : Array Value) (eg : ∀ args w, (callFunc g args).run Tryz.prog w = .ok (.enter g args) w) (w : World) (h : Kd.C kp w A l.length l) (hn : l.length ≤ 1000000000) (hp : PredB g lb p w) :
    Calls Tryz.prog 30 #[.slice A l.length c, .func (.func g) #[] lb] w fun e w' => e = .returned (.int .i64 (l.findIdx p : Nat)) ∧ Below w.heap.size w w' := by
  have HF := Lib.hid (indexFunc_any A c l p g lb eg w h hn hp)
  rw [idxP_eq, Nat.zero_add] at HF
  by_cases hany : l.any p = true
  · rw [if_pos hany] at HF
    have hle : (0 : Int) ≤ (l.findIdx p : Nat) := by omega
    clear h hp hany
    go_enter Tryz.func30, Tryz.ntmps30
    go_wp2_with (go_at_call 57; refine HF.out.mono ?_; rintro e w' ⟨rfl, hb⟩)
    go_ret
    exact ⟨rfl, hb⟩
  · rw [if_neg hany] at HF
    rw [findIdx_none p l hany]
    clear h hp hany
    go_enter Tryz.func30, Tryz.ntmps30
    go_wp2_with (go_at_call 57; refine HF.out.mono ?_; rintro e w' ⟨rfl, hb⟩)
    go_ret
    exact ⟨rfl, hb⟩
def keyIs (key : ByteArray) (x : KV) : Bool := x.1.toList == key.toList
theorem get1_pred (B : Nat) (key : ByteArray) (w : World) (hB : B < w.heap.size) (hc : w.cell? ⟨B, 0, none⟩ = some (.string key)) : PredB 31 #[.pointer (some ⟨B, 0, none⟩)] (keyIs key) w := by
  intro W x hW
  have hk : W.cell? ⟨B, 0, none⟩ = some (.string key) := (hW.cell (p := ⟨B, 0, none⟩) hB).trans hc
  clear hc
  have hk2 : (W.alloc (.cells #[.string x.1, .string x.2] 45)).cell? ⟨B, 0, none⟩ = some (.string key) := (((Below.refl _ W).alloc (Nat.le_refl _) (.cells #[.string x.1, .string x.2] 45)).cell (p := ⟨B, 0, none⟩) (World.block_lt_of_cell? W _ hk)).trans hk
  clear hk
  show Calls Tryz.prog 31 #[.agg #[.string x.1, .string x.2], .pointer (some ⟨B, 0, none⟩)] W _
  go_enter Tryz.func31, Tryz.ntmps31
  go_wp2
  go_ret
  exact ⟨rfl, (Below.refl _ W).alloc (Nat.le_refl _) _⟩
def getOf (l : List KV) (key : ByteArray) : ByteArray × Bool := match l.find? (keyIs key) with
  | some x => (x.2, true)
  | none => (⟨#[]⟩, false)
theorem find_idx (p : KV → Bool) : ∀ l : List KV, l.find? p = l[l.findIdx p]?
  | [] => rfl
  | x :: t => by
    rw [List.find?_cons, List.findIdx_cons]
    cases p x with
    | true => rfl
    | false => simpa using find_idx p t
theorem get_any (A : Option Addr) (c : Nat) (l : List KV) (key : ByteArray) (w : World) (h : Kd.C kp w A l.length l) (hn : l.length ≤ 1000000000) :
    Calls Tryz.prog 10 #[.slice A l.length c, .string key] w fun e w' => e = .returned (.tuple #[.string (getOf l key).1, .bool (getOf l key).2]) ∧ Below w.heap.size w w' := by
  have hB : Below w.heap.size w (w.alloc (.cells #[.string key] 9)) := (Below.refl _ w).alloc (Nat.le_refl _) _
  have hc : (w.alloc (.cells #[.string key] 9)).cell? ⟨w.heap.size, 0, none⟩ = some (.string key) := (cell_of_row _ _ _ _ _ _ (heap_alloc_new w _)).trans rfl
  have HF := Lib.hid (firstP_any A c l (keyIs key) 31 #[.pointer (some ⟨w.heap.size, 0, none⟩)] (enters_of Tryz.func31 (by kernel_rfl) rfl) _ (Kd.C_below h hB) hn (get1_pred w.heap.size key _ (by simp) hc))
  have HC := Lib.hid h
  have hle : l.findIdx (keyIs key) ≤ l.length := List.findIdx_le_length
  obtain ⟨r, hr⟩ : ∃ r, r = getOf l key := ⟨_, rfl⟩
  rw [← hr]
  unfold getOf at hr
  rw [find_idx] at hr
  have HR := Lib.hid hr
  clear hr
  generalize l.findIdx (keyIs key) = f at HF hle HR
  have HB := Lib.hid hB
  clear h hc hB
  by_cases hlt : f < l.length
  · have hne : ((f : Int) == (l.length : Int)) = false := by simp; omega
    go_enter Tryz.func10, Tryz.ntmps10
    go_wp2_with (go_at_call 30; refine HF.out.mono ?_; rintro e w' ⟨rfl, hb⟩; have HB2 := Lib.hid (HB.out.next hb); obtain ⟨ad, x, hA, hx, hx1, hx2⟩ := pairs_at (Kd.C_below HC.out HB2.out) hlt rfl; subst hA; have HX := Lib.hid hx; clear hb hx)
    go_ret2
    refine ⟨?_, HB2.out⟩
    have := HR.out
    rw [HX.out] at this
    rw [this]
    rfl
  · obtain rfl : f = l.length := by omega
    go_enter Tryz.func10, Tryz.ntmps10
    go_wp2_with (go_at_call 30; refine HF.out.mono ?_; rintro e w' ⟨rfl, hb⟩; have HB2 := Lib.hid (HB.out.next hb); clear hb)
    go_ret2
    refine ⟨?_, HB2.out⟩
    have := HR.out
    rw [List.getElem?_eq_none (Nat.le_refl _)] at this
    rw [this]
    rfl
end Go.Proofs.YtliaemoomhfcdaaGreat
