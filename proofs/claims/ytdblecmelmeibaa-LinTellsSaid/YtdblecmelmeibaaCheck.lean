/- The walk of lin's Check. -/
import Derived.Test.YtdblecmelmeibaaOrder
namespace Go.Proofs.Ytdblecmelmeibaa
open Go.RowKit Go.Maps Go.ChangeMaps
set_option maxHeartbeats 1000000
set_option maxRecDepth 100000

/-- What a key has: nothing where it is not. -/
def keyOf' (v : ByteArray) (b : Bool) : PK := if b then ⟨v, true⟩ else ⟨⟨#[]⟩, false⟩
/-- What lin's Check decides. -/
def Can (v : ByteArray) (b : Bool) (acts : List PA) (e : ByteArray) (l : Bool) : Prop := acts.length ≤ 20 ∧ Feas acts (keyOf' e l) 0 (keyOf' v b)
def CPost (v : ByteArray) (b : Bool) (acts : List PA) (e : ByteArray) (l : Bool) (w : World) (en : Ending) (w' : World) : Prop :=
  ∃ r, en = .returned (.bool r) ∧ (r = true ↔ Can v b acts e l) ∧ Below w.heap.size w w'

/-- The world at the closure's birth. -/
abbrev W5 (w : World) (A : Option Addr) (n c : Nat) (fv : ByteArray) (fb : Bool) (ev : ByteArray) (eb : Bool) : World :=
  ((((w.alloc (.cells #[.slice A n c] 22)).alloc (.cells #[.string fv, .bool fb] 50)).alloc (.cells #[.string ev, .bool eb] 50)).alloc (.map #[] 0)).alloc (.cells #[.map (some (w.heap.size + 1 + 1 + 1))] 51)
theorem w5_size (w : World) (A : Option Addr) (n c : Nat) (fv : ByteArray) (fb : Bool) (ev : ByteArray) (eb : Bool) : (W5 w A n c fv fb ev eb).heap.size = w.heap.size + 1 + 1 + 1 + 1 + 1 := by simp
theorem w5_cell (w : World) (A : Option Addr) (n c : Nat) (fv : ByteArray) (fb : Bool) (ev : ByteArray) (eb : Bool) :
    ((W5 w A n c fv fb ev eb).alloc (.cells #[.nilFunc] 52)).heap[w.heap.size + 1 + 1 + 1 + 1 + 1]? = some (.cells #[.nilFunc] 52 (0, 0)) := by
  have h := heap_alloc_new (W5 w A n c fv fb ev eb) (.cells #[.nilFunc] 52)
  rw [w5_size] at h
  exact h

theorem run_store_func (w : World) (a : Addr) (fn : Fn) (fs cs : Array Value) (m : Mode) : (store a (.func fn fs cs) m).run Try.prog w = stored Try.prog w a (.func fn fs cs) m := run_store Try.prog w a _ m rfl

theorem at_new (w : World) (o : Obj) (k : Nat) (hk : w.heap.size = k) : (w.alloc o).heap[k]? = some o := hk ▸ heap_alloc_new w o
theorem w6_ctx (w : World) (A : Option Addr) (n c : Nat) (acts : List PA) (fv : ByteArray) (fb : Bool) (ev : ByteArray) (eb : Bool) (h : RA w A n acts) :
    Ctx acts ⟨ev, eb⟩ (w.heap.size + 1 + 1 + 1) (w.heap.size + 1 + 1 + 1 + 1) w.heap.size (w.heap.size + 1 + 1) (w.heap.size + 1 + 1 + 1 + 1 + 1) A n c
      ((W5 w A n c fv fb ev eb).alloc (.cells #[.func (.func 17) #[] #[.pointer (some ⟨w.heap.size + 1 + 1 + 1 + 1, 0, none⟩), .pointer (some ⟨w.heap.size, 0, none⟩), .pointer (some ⟨w.heap.size + 1 + 1, 0, none⟩), .pointer (some ⟨w.heap.size + 1 + 1 + 1 + 1 + 1, 0, none⟩)]] 52)) := by
  have old : ∀ i, i < w.heap.size → ((W5 w A n c fv fb ev eb).alloc (.cells #[.func (.func 17) #[] #[.pointer (some ⟨w.heap.size + 1 + 1 + 1 + 1, 0, none⟩), .pointer (some ⟨w.heap.size, 0, none⟩), .pointer (some ⟨w.heap.size + 1 + 1, 0, none⟩), .pointer (some ⟨w.heap.size + 1 + 1 + 1 + 1 + 1, 0, none⟩)]] 52)).heap[i]? = w.heap[i]? := by
    intro i hi
    rw [Below.heap_alloc _ _ _ (by simp; omega), Below.heap_alloc _ _ _ (by simp; omega), Below.heap_alloc _ _ _ (by simp; omega), Below.heap_alloc _ _ _ (by simp; omega), Below.heap_alloc _ _ _ (by simp; omega), Below.heap_alloc _ _ _ hi]
  refine ⟨?_, ?_, ?_, ?_, ⟨h.1, fun h0 => ?_⟩, fun h0 ad he => ?_, ⟨#[], 0, ?_, fun e he => by simp at he⟩⟩
  · rw [Below.heap_alloc _ _ _ (by simp)]
    exact at_new _ _ _ (by simp)
  · rw [Below.heap_alloc _ _ _ (by simp <;> omega), Below.heap_alloc _ _ _ (by simp <;> omega), Below.heap_alloc _ _ _ (by simp <;> omega), Below.heap_alloc _ _ _ (by simp <;> omega), Below.heap_alloc _ _ _ (by simp)]
    exact at_new _ _ _ rfl
  · rw [Below.heap_alloc _ _ _ (by simp <;> omega), Below.heap_alloc _ _ _ (by simp <;> omega), Below.heap_alloc _ _ _ (by simp)]
    exact at_new _ _ _ (by simp)
  · exact at_new _ _ _ (by simp)
  · obtain ⟨ad, he, hb, hc⟩ := h.2 h0
    exact ⟨ad, he, by simp; omega, fun i x hx => (hc i x hx).kept (by rw [block_of_add]; exact old _ hb)⟩
  · intro e
    obtain ⟨ad2, he2, hb, hc⟩ := h.2 h0
    rw [he] at he2
    injection he2 with he2
    subst he2
    omega
  · rw [Below.heap_alloc _ _ _ (by simp <;> omega), Below.heap_alloc _ _ _ (by simp)]
    exact at_new _ _ _ (by simp)

theorem check_any (v : ByteArray) (b : Bool) (A : Option Addr) (n c : Nat) (acts : List PA) (e : ByteArray) (l : Bool) (w : World) (h : RA w A n acts) (hn : n ≤ 9223372036854775807) (hv : v.size ≤ 1000) (hvs : ∀ x ∈ acts, x.val.size ≤ 1000) :
    Calls Try.prog 11 #[.string v, .bool b, .slice A n c, .string e, .bool l] w (CPost v b acts e l w) := by
  have HR := Lib.hid h
  clear h
  by_cases h20 : 20 < n
  · go_enter Try.func11, Try.ntmps11
    go_wp2
    go_ret
    refine ⟨false, rfl, ⟨(fun h => by cases h), fun h => ?_⟩, (Below.refl _ _).alloc (Nat.le_refl _) _⟩
    have := h.1
    rw [HR.out.1] at this
    omega
  · have hmm := @run_makeMap Try.prog
    cases b <;> cases l
    · have hsf := run_store_func
      have hw := w5_cell w A n c ⟨#[]⟩ false ⟨#[]⟩ false
      have hc14 : ((W5 w A n c ⟨#[]⟩ false ⟨#[]⟩ false).alloc (.cells #[.nilFunc] 52)).cell? ⟨w.heap.size + 1 + 1 + 1 + 1 + 1, 0, none⟩ = some .nilFunc := by rw [cell_of_row _ _ _ _ _ _ hw]; rfl
      have hf14 : ((W5 w A n c ⟨#[]⟩ false ⟨#[]⟩ false).alloc (.cells #[.nilFunc] 52)).frozen? ⟨w.heap.size + 1 + 1 + 1 + 1 + 1, 0, none⟩ = false := frozen_of_row _ _ _ _ _ hw
      clear hw
      have HX := Lib.hid (w6_ctx w A n c acts ⟨#[]⟩ false ⟨#[]⟩ false HR.out)
      go_enter Try.func11, Try.ntmps11
      go_wp2_with fail
      refine (order_all acts ⟨⟨#[]⟩, false⟩ _ _ _ _ _ A n c (by omega) hvs (cnt 0 n + 1) 0 ⟨⟨#[]⟩, false⟩ _ (Nat.lt_succ_self _) (by omega) (by simp [ByteArray.size]) HX.out).mono ?_
      rintro e2 w' ⟨r, rfl, hbF, hm, hg⟩
      go_wp2
      go_ret
      refine ⟨r, rfl, ?_, ?_⟩
      · rw [hbF]
        unfold Can keyOf'
        simp [HR.out.1]
        intro _
        omega
      · exact (((((((Below.refl w.heap.size w).alloc (Nat.le_refl _) _).alloc (by simp) _).alloc (by simp <;> omega) _).alloc (by simp <;> omega) _).alloc (by simp <;> omega) _).alloc (by simp <;> omega) _).grown hg (by simp <;> omega) (fun g hg => by injection hg with hg; omega)
    · have hsf := run_store_func
      have hw := w5_cell w A n c ⟨#[]⟩ false e true
      have hc14 : ((W5 w A n c ⟨#[]⟩ false e true).alloc (.cells #[.nilFunc] 52)).cell? ⟨w.heap.size + 1 + 1 + 1 + 1 + 1, 0, none⟩ = some .nilFunc := by rw [cell_of_row _ _ _ _ _ _ hw]; rfl
      have hf14 : ((W5 w A n c ⟨#[]⟩ false e true).alloc (.cells #[.nilFunc] 52)).frozen? ⟨w.heap.size + 1 + 1 + 1 + 1 + 1, 0, none⟩ = false := frozen_of_row _ _ _ _ _ hw
      clear hw
      have HX := Lib.hid (w6_ctx w A n c acts ⟨#[]⟩ false e true HR.out)
      go_enter Try.func11, Try.ntmps11
      go_wp2_with fail
      refine (order_all acts ⟨e, true⟩ _ _ _ _ _ A n c (by omega) hvs (cnt 0 n + 1) 0 ⟨⟨#[]⟩, false⟩ _ (Nat.lt_succ_self _) (by omega) (by simp [ByteArray.size]) HX.out).mono ?_
      rintro e2 w' ⟨r, rfl, hbF, hm, hg⟩
      go_wp2
      go_ret
      refine ⟨r, rfl, ?_, ?_⟩
      · rw [hbF]
        unfold Can keyOf'
        simp [HR.out.1]
        intro _
        omega
      · exact (((((((Below.refl w.heap.size w).alloc (Nat.le_refl _) _).alloc (by simp) _).alloc (by simp <;> omega) _).alloc (by simp <;> omega) _).alloc (by simp <;> omega) _).alloc (by simp <;> omega) _).grown hg (by simp <;> omega) (fun g hg => by injection hg with hg; omega)
    · have hsf := run_store_func
      have hw := w5_cell w A n c v true ⟨#[]⟩ false
      have hc14 : ((W5 w A n c v true ⟨#[]⟩ false).alloc (.cells #[.nilFunc] 52)).cell? ⟨w.heap.size + 1 + 1 + 1 + 1 + 1, 0, none⟩ = some .nilFunc := by rw [cell_of_row _ _ _ _ _ _ hw]; rfl
      have hf14 : ((W5 w A n c v true ⟨#[]⟩ false).alloc (.cells #[.nilFunc] 52)).frozen? ⟨w.heap.size + 1 + 1 + 1 + 1 + 1, 0, none⟩ = false := frozen_of_row _ _ _ _ _ hw
      clear hw
      have HX := Lib.hid (w6_ctx w A n c acts v true ⟨#[]⟩ false HR.out)
      go_enter Try.func11, Try.ntmps11
      go_wp2_with fail
      refine (order_all acts ⟨⟨#[]⟩, false⟩ _ _ _ _ _ A n c (by omega) hvs (cnt 0 n + 1) 0 ⟨v, true⟩ _ (Nat.lt_succ_self _) (by omega) hv HX.out).mono ?_
      rintro e2 w' ⟨r, rfl, hbF, hm, hg⟩
      go_wp2
      go_ret
      refine ⟨r, rfl, ?_, ?_⟩
      · rw [hbF]
        unfold Can keyOf'
        simp [HR.out.1]
        intro _
        omega
      · exact (((((((Below.refl w.heap.size w).alloc (Nat.le_refl _) _).alloc (by simp) _).alloc (by simp <;> omega) _).alloc (by simp <;> omega) _).alloc (by simp <;> omega) _).alloc (by simp <;> omega) _).grown hg (by simp <;> omega) (fun g hg => by injection hg with hg; omega)
    · have hsf := run_store_func
      have hw := w5_cell w A n c v true e true
      have hc14 : ((W5 w A n c v true e true).alloc (.cells #[.nilFunc] 52)).cell? ⟨w.heap.size + 1 + 1 + 1 + 1 + 1, 0, none⟩ = some .nilFunc := by rw [cell_of_row _ _ _ _ _ _ hw]; rfl
      have hf14 : ((W5 w A n c v true e true).alloc (.cells #[.nilFunc] 52)).frozen? ⟨w.heap.size + 1 + 1 + 1 + 1 + 1, 0, none⟩ = false := frozen_of_row _ _ _ _ _ hw
      clear hw
      have HX := Lib.hid (w6_ctx w A n c acts v true e true HR.out)
      go_enter Try.func11, Try.ntmps11
      go_wp2_with fail
      refine (order_all acts ⟨e, true⟩ _ _ _ _ _ A n c (by omega) hvs (cnt 0 n + 1) 0 ⟨v, true⟩ _ (Nat.lt_succ_self _) (by omega) hv HX.out).mono ?_
      rintro e2 w' ⟨r, rfl, hbF, hm, hg⟩
      go_wp2
      go_ret
      refine ⟨r, rfl, ?_, ?_⟩
      · rw [hbF]
        unfold Can keyOf'
        simp [HR.out.1]
        intro _
        omega
      · exact (((((((Below.refl w.heap.size w).alloc (Nat.le_refl _) _).alloc (by simp) _).alloc (by simp <;> omega) _).alloc (by simp <;> omega) _).alloc (by simp <;> omega) _).alloc (by simp <;> omega) _).grown hg (by simp <;> omega) (fun g hg => by injection hg with hg; omega)
end Go.Proofs.Ytdblecmelmeibaa
