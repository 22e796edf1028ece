/- The walk of a list of pairs with a pair. -/
import Derived.Test.YtliaemoomhfcdaaGreatInsertW
namespace Go.Proofs.YtliaemoomhfcdaaGreat
open Go.RowKit Go.Proofs.YtliaemoomhfcdaaGreatW.PrintWords
attribute [local go_sem] le_flip
set_option maxHeartbeats 2000000
set_option maxRecDepth 100000
set_option linter.unusedVariables false
set_option linter.unusedSimpArgs false
def keyGt (key : ByteArray) (x : KV) : Bool := ltS key x.1
theorem with1_pred (B : Nat) (key : ByteArray) (w : World) (hB : B < w.heap.size) (hc : w.cell? ⟨B, 0, none⟩ = some (.string key)) : PredB 33 #[.pointer (some ⟨B, 0, none⟩)] (keyGt key) w := by
  intro W x hW
  have hk : W.cell? ⟨B, 0, none⟩ = some (.string key) := (hW.cell (p := ⟨B, 0, none⟩) hB).trans hc
  have hk2 : (W.alloc (.cells #[.string x.1, .string x.2] 45)).cell? ⟨B, 0, none⟩ = some (.string key) := (((Below.refl _ W).alloc (Nat.le_refl _) (.cells #[.string x.1, .string x.2] 45)).cell (p := ⟨B, 0, none⟩) (World.block_lt_of_cell? W _ hk)).trans hk
  clear hk hc
  show Calls Tryz.prog 33 #[.agg #[.string x.1, .string x.2], .pointer (some ⟨B, 0, none⟩)] W _
  go_enter Tryz.func33, Tryz.ntmps33
  go_wp2
  go_ret
  exact ⟨rfl, (Below.refl _ W).alloc (Nat.le_refl _) _⟩
theorem C_two {w : World} {n0 c : Nat} {A : Option Addr} {l : List KV} (h : w.ownsRow n0 45 2 (.slice A l.length c) l.length (flatP l)) : Kd.C kp w A l.length l := by
  have h2 : w.ownsRow n0 45 2 (.slice A l.length c) l.length (flatP (l.map id)) := by rw [List.map_id]; exact h
  obtain ⟨A', c', he, _, hC⟩ := Kd.R_reads (R_pairs id h2)
  injection he with e1
  subst e1
  have := C_pairs id hC
  rwa [List.map_id] at this
theorem below_alloc_ {w W : World} {o : Obj} (h : Below w.heap.size w W) : Below w.heap.size w (W.alloc o) := h.alloc h.size o
theorem below_drew_ {w W : World} (h : Below w.heap.size w W) : Below w.heap.size w W.drew := h.drew
def withOf (l : List KV) (key val : ByteArray) : List KV := insOf (withoutOf l key) ((withoutOf l key).findIdx (keyGt key)) (key, val)
theorem withP_any (A : Option Addr) (c : Nat) (l : List KV) (key val : ByteArray) (w : World) (h : Kd.C kp w A l.length l) (hn : l.length ≤ 100000000) :
    Calls Tryz.prog 13 #[.slice A l.length c, .string key, .string val] w fun e w' => ∃ v, e = .returned v ∧ w'.ownsRow w.heap.size 45 2 v (withOf l key val).length (flatP (withOf l key val)) ∧ Below w.heap.size w w' := by
  have hB : Below w.heap.size w (w.alloc (.cells #[.string key] 9)) := (Below.refl _ w).alloc (Nat.le_refl _) _
  have hc : (w.alloc (.cells #[.string key] 9)).cell? ⟨w.heap.size, 0, none⟩ = some (.string key) := (cell_of_row _ _ _ _ _ _ (heap_alloc_new w _)).trans rfl
  have hsz : (w.alloc (.cells #[.string key] 9)).heap.size = w.heap.size + 1 := by simp
  have HWO := Lib.hid (without_any A c l key _ (Kd.C_below h hB) (by omega))
  have hol : (withoutOf l key).length ≤ 100000000 := Nat.le_trans (List.length_filter_le _ _) hn
  unfold withOf
  have hle : (withoutOf l key).findIdx (keyGt key) ≤ (withoutOf l key).length := List.findIdx_le_length
  have HF := Lib.hid (fun A c W hW (h1 : Below (w.heap.size + 1) (w.alloc (.cells #[.string key] 9)) W) => firstP_any A c (withoutOf l key) (keyGt key) 33 #[.pointer (some ⟨w.heap.size, 0, none⟩)] (enters_of Tryz.func33 (by kernel_rfl) rfl) W hW (by omega)
    (with1_pred w.heap.size key W (by have := h1.size; omega) ((h1.cell (p := ⟨w.heap.size, 0, none⟩) (by simp)).trans hc)))
  have HB := Lib.hid hB
  rw [hsz] at HWO
  have hc2 : ∀ W, Below (w.heap.size + 1) (w.alloc (.cells #[.string key] 9)) W → W.cell? ⟨w.heap.size, 0, none⟩ = some (.string key) := fun W hW => (hW.cell (p := ⟨w.heap.size, 0, none⟩) (by simp)).trans hc
  have HC2 := Lib.hid hc2
  generalize withoutOf l key = o at HWO HF hle hol ⊢
  generalize o.findIdx (keyGt key) = f at HF hle ⊢
  clear h hB hsz hc2
  have mixed : Tryz.prog.follows .mixedOrders = true := by kernel_rfl
  go_enter Tryz.func13, Tryz.ntmps13
  go_wp2_with (first
    | (go_at_call 15; refine HWO.out.mono ?_; rintro e w1 ⟨v, rfl, hr, hb⟩; obtain ⟨A1, c1, rfl⟩ := own_two hr; have HR := Lib.hid hr; have HB1 := Lib.hid hb; have hc1 := HC2.out w1 hb; clear hr hb))
  have HC1 := Lib.hid (C_two HR.out)
  have HF2 : Hid (∀ W, Below w1.heap.size w1 W → Calls Tryz.prog 30 #[.slice A1 o.length c1, .func (.func 33) #[] #[.pointer (some ⟨w.heap.size, 0, none⟩)]] W fun e w' => e = .returned (.int .i64 (f : Nat)) ∧ Below W.heap.size W w') :=
    Lib.hid fun W hW => HF.out A1 c1 W (Kd.C_below HC1.out hW) (HB1.out.trans (hW.mono (by simpa using HB1.out.size)))
  have HLD : Hid (∀ W, Below w1.heap.size w1 W → W.cell? ⟨w.heap.size, 0, none⟩ = some (.string key)) := Lib.hid fun W hW => HC2.out W (HB1.out.trans (hW.mono (by simpa using HB1.out.size)))
  have HINS : Hid (∀ W vb, Below w1.heap.size w1 W → W.heap[vb]? = some (.cells #[.string key, .string val] 45 (0, 0)) → w1.heap.size ≤ vb → Calls Tryz.prog 32 #[.slice A1 o.length c1, .int .i64 (f : Nat), .slice (some ⟨vb, 0, none⟩) 1 1] W
      fun e w' => ∃ v', e = .returned v' ∧ w'.ownsRow w.heap.size 45 2 v' (insOf o f (key, val)).length (flatP (insOf o f (key, val))) ∧ Below w.heap.size w w') :=
    Lib.hid fun W vb hW hv hle2 => (insert_any (w.heap.size + 1) (.slice A1 o.length c1) o f vb (key, val) W (Nat.le_trans (by simpa using HB1.out.size) hW.size) (by omega) hle (own_weaken (own_below_ HR.out hW) (by simp)) hv
      (fun e => by have := own_lt HR.out e; omega)).mono fun e w' ⟨v', h1, h2, h3⟩ => ⟨v', h1, own_weaken h2 (by omega), HB.out.trans ((HB1.out.trans (hW.mono (by simpa using HB1.out.size)) |>.mono (by omega)).trans (h3.mono (by omega)))⟩
  clear HF HC2
  go_region_with (first
    | (go_at_call 30; refine (HF2.out _ ?_).mono ?_; (· (repeat (first | exact Below.refl _ _ | apply below_alloc_ | apply below_drew_))); rintro e w2 ⟨rfl, hb2⟩; have hk2 := HLD.out w2 (by first | exact (Below.refl _ _).drew.trans hb2 | exact ((Below.refl _ _).drew.alloc (Nat.le_refl _) _).trans (hb2.mono (by simp))))
    | (go_at_call 32; refine (HINS.out _ _ ?_ ?_ ?_).mono ?_; (· first | exact below_alloc_ ((Below.refl _ _).drew.trans hb2) | exact ((Below.refl _ _).drew.alloc (Nat.le_refl _) _).trans (hb2.mono (by simp))); (· first | exact heap_alloc_new _ _ | exact (hb2.block _ (by simp)).trans (heap_alloc_new _ _)); (· first | exact ((Below.refl _ _).drew.trans hb2).size | exact Nat.le_refl _); rintro e w3 ⟨v3, rfl, hr3, hb3⟩))
  all_goals
    go_wp2
    go_ret
    exact ⟨v3, rfl, hr3, hb3⟩
end Go.Proofs.YtliaemoomhfcdaaGreat
