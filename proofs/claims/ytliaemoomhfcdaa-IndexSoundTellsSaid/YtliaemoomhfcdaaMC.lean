/- Several texts of this seat, joined: NodeL, ArenaW, SUx0, GivenSU, SUx1, SUx2, SuperW, NewW. -/
import Derived.Test.YtliaemoomhfcdaaMQ
import Derived.Test.YtliaemoomhfcdaaNodeL
import Derived.Test.YtliaemoomhfcdaaMB
import Derived.Defers
import Derived.Recover
import Derived.Test.YtliaemoomhfcdaaProg
import Derived.Below
import Derived.Deep.Draws
import Derived.Deep.AppendLies
import Derived.Maps.AppendAt
import Derived.OwnWalk
import Derived.Laws.BytesArg
import Derived.Laws.MakeOwn
import Derived.Laws.OwnMore
import Derived.Deep.OwnRows
import Derived.Tactics
import Derived.Lib.ConvBytes
import Derived.Laws.Slices
import Derived.WalkKit
import Derived.KernelRfl
import Derived.RowKit3
import Derived.Deep.LoopGhost
import Derived.Deep.QuietTactic
import Derived.BigQuiet
import Derived.WideLaws
import Derived.Deep.DeepCutAuto
import Derived.Deep.CutBlock
import Derived.Deep.RegionHeld3
import Derived.Laws.Rows
import Derived.Lib.AppendStr
import Derived.ArgAppend
import Derived.Laws.IdiomCopy
import Derived.OrdersHeld
import Derived.Laws.BitsLemmas
import Derived.RowKit
import Derived.Test.YtliaemoomhfcdaaMW
import Derived.Test.YtliaemoomhfcdaaMA
namespace Go.Proofs.Ytliaemoomhfcdaa
open Go.RowKit Go.Proofs.YtliaemoomhfcdaaW.PrintWords
set_option maxHeartbeats 2000000
set_option maxRecDepth 100000
set_option linter.unusedVariables false
set_option linter.unusedSimpArgs false

end Go.Proofs.Ytliaemoomhfcdaa
namespace Go.Proofs.Ytliaemoomhfcdaa
open Go.RowKit Go.Proofs.YtliaemoomhfcdaaW.PrintWords
set_option maxHeartbeats 2000000
set_option maxRecDepth 100000
set_option linter.unusedVariables false
set_option linter.unusedSimpArgs false

theorem recRead_any (A : Option Addr) (c : Nat) (ws : List Int) (b : Int) (w : World) (h : Kd.C (Kd.int .i64) w A ws.length ws) (hc : ws.length ≤ c) (hn : ws.length ≤ 1000000000) :
    Calls Try.prog 44 #[.slice A ws.length c, .int .i64 b] w (RecPost (recRead ws b) w) := by
 unfold recRead
 by_cases h0 : b < 0
 · rw [if_pos h0]
   exact readRec_bad A ws.length c b w hn (.inl h0)
 by_cases h1 : (ws.length : Int) / 16 ≤ b
 · rw [if_neg h0, if_pos h1]
   exact readRec_bad A ws.length c b w hn (.inr h1)
 rw [if_neg h0, if_neg h1]
 obtain ⟨k, rfl⟩ := Int.eq_ofNat_of_zero_le (show 0 ≤ b by omega)
 exact readRec_any A ws.length c ws k w (RI_of_C h) hn hc (by omega)
theorem frozen_alloc_ (w : World) (o : Obj) (p : Addr) (h : p.block < w.heap.size) : (w.alloc o).frozen? p = w.frozen? p := World.frozen?_of_block (w := w) (Below.heap_alloc w o p.block h)
def corruptChain : List PanicEntry := [{ v := .iface 106 (.agg #[]), recovered := false }]
theorem sound_yes (w : World) : Calls Try.prog 90 #[.bool true] w fun e w' => e = .returned (.tuple #[]) ∧ w' = w := by
 go_enter Try.func90, Try.ntmps90
 go_wp2
 first | go_end0 | refine bodyPost_ret (results_none rfl _ _ _) rfl ?_
 exact ⟨rfl, rfl⟩
theorem sound_no (w : World) : Calls Try.prog 90 #[.bool false] w fun e w' => e = .panicked corruptChain ∧ Below w.heap.size w w' := by
 go_enter Try.func90, Try.ntmps90
 go_wp2
 exact ⟨rfl, rfl, Below.refl _ _⟩
theorem told_panicking (p : Addr) (x : Int) (w : World) (hc : w.cell? p = some (.int .i64 x)) (hz : w.frozen? p = false) :
    CallsD Try.prog 48 #[.pointer (some p)] (.panicking corruptChain) w fun e u' w' =>
      e = .returned (.tuple #[]) ∧ u' = .panicking [{ v := .iface 106 (.agg #[]), recovered := true }] ∧ w' = (w.alloc (.cells #[] 106)).setCell p (.int .i64 110) := by
 have hlt : p.block < w.heap.size := by
   rcases Nat.lt_or_ge p.block w.heap.size with h2 | h2
   · exact h2
   · simp [World.cell?, Array.getElem?_eq_none h2] at hc
 have hc1 : (w.alloc (.cells #[] 106)).cell? p = some (.int .i64 x) := (World.cell?_alloc_lt w _ p hlt).trans hc
 have hz1 : (w.alloc (.cells #[] 106)).frozen? p = false := by rw [frozen_alloc_ w _ p hlt]; exact hz
 have hta : ∀ w : World, (Instr.typeAssert (.iface 106 (.agg #[])) 20 106 true).run Try.prog w = .ok (.tuple #[.agg #[], .bool true]) w := fun w => by kernel_rfl
 refine callsD_of_wpS Try.func48 rfl fun c₀ cs hu => ?_
 apply wpS_seq
 apply wpS_region
 simp [wpOpsS, go_sem, recoverD, hu, Try.ntmps48, Exit.thenS, corruptChain, Array.replicate, List.replicate]
 refine wpS_of_wp ?_
 go_wp2
 cases c₀
 simp_all [bodyPostS, results, Try.results48]
theorem told_idle (p : Addr) (w : World) :
    CallsD Try.prog 48 #[.pointer (some p)] .returning w fun e u' w' => e = .returned (.tuple #[]) ∧ u' = .returning ∧ w' = w := by
 have heq : ∀ w : World, (binOp .eql 20 .nilIface .nilIface).run Try.prog w = .ok (.bool true) w := fun w => by kernel_rfl
 refine callsD_of_wpS Try.func48 rfl fun c₀ cs hu => ?_
 apply wpS_seq
 apply wpS_region
 simp [wpOpsS, go_sem, recoverD, hu, Try.ntmps48, Exit.thenS, Array.replicate, List.replicate]
 refine wpS_of_wp ?_
 go_wp2
 cases c₀
 simp_all [bodyPostS, results, Try.results48]

theorem setRow_else (w : World) (g : Nat) (cs : Array Value) (k : Nat) (h : k ≠ g) : (w.setRow g cs).heap[k]? = w.heap[k]? := by
 unfold World.setRow
 simp [Array.getElem?_modify]
 omega
theorem res_nodeOf {tmps : Array Value} {W : World} {g : Nat} {a b c d : Int} {u : Value} (hp : tmps.getD 4 undef = .pointer (some ⟨g, 0, none⟩))
    (h : W.heap[g]? = some (.cells #[.int .i64 a, .int .i64 b, .int .i64 c, .int .i64 d, u] 24 (0, 0))) (hu : u.oneCell' = true) :
    (results Try.f50 tmps).run Try.prog W = .ok (.agg #[.int .i64 a, .int .i64 b, .int .i64 c, .int .i64 d, u]) W := by
 exact results_cell_row rfl _ _ _ _ _ _ _ hp h Try.underlying24 rfl (by kernel_rfl)
theorem nodeOf_bad (A : Option Addr) (c : Nat) (ws : List Int) (b : Int) (w : World) (h : Kd.C (Kd.int .i64) w A ws.length ws) (hc : ws.length ≤ c) (hn : ws.length ≤ 1000000000) (hbad : ¬ (nodeRead ws b).2 = 0) :
    Calls Try.prog 50 #[.slice A ws.length c, .int .i64 b] w fun e w' => e = .panicked corruptChain ∧ Below w.heap.size w w' := by
 have HN := Lib.hid (fun W hW => nodeRead_any A c ws b W hW hc hn)
 have HC := Lib.hid h
 generalize nodeRead ws b = r at hbad HN
 obtain ⟨⟨lv, tu, ne, lo, sl⟩, er⟩ := r
 have he0 : (er == 0) = false := by simpa using hbad
 have hu24 := Try.underlying24
 go_enter Try.func50, Try.ntmps50
 go_wp2_with (first
   | (go_at_call 21; refine (HN.out _ (Kd.C_alloc HC.out _)).mono ?_; rintro e w1 ⟨v, rfl, hR, hB1⟩; obtain ⟨A1, c1, rfl⟩ := Kd.R_slice hR)
   | (go_at_call 90; refine (sound_no _).mono ?_; rintro e w2 ⟨rfl, hB2⟩))
 exact ⟨rfl, rfl, (((Below.refl _ _).alloc (Nat.le_refl _) _).next (hB1.alloc hB1.size _)).next hB2⟩
theorem nodeOf_ok (A : Option Addr) (c : Nat) (ws : List Int) (b : Int) (w : World) (h : Kd.C (Kd.int .i64) w A ws.length ws) (hc : ws.length ≤ c) (hn : ws.length ≤ 1000000000) (hok : (nodeRead ws b).2 = 0) :
    Calls Try.prog 50 #[.slice A ws.length c, .int .i64 b] w fun e w' => ∃ v, e = .returned (.agg #[.int .i64 (nodeRead ws b).1.level, .int .i64 (nodeRead ws b).1.turn, .int .i64 (nodeRead ws b).1.next, .int .i64 (nodeRead ws b).1.low, v]) ∧
      Kd.R (Kd.int .i64) 3 w' w.heap.size (fun _ => True) v (nodeRead ws b).1.slots ∧ Below w.heap.size w w' := by
 have HN := Lib.hid (fun W hW => nodeRead_any A c ws b W hW hc hn)
 have HC := Lib.hid h
 generalize nodeRead ws b = r at hok HN
 obtain ⟨⟨lv, tu, ne, lo, sl⟩, er⟩ := r
 subst hok
 have hu24 := Try.underlying24
 go_enter Try.func50, Try.ntmps50
 go_wp2_with (first
   | (go_at_call 21; refine (HN.out _ (Kd.C_alloc HC.out _)).mono ?_; rintro e w1 ⟨v, rfl, hR, hB1⟩; obtain ⟨A1, c1, rfl⟩ := Kd.R_slice hR; have HROW := Lib.hid ((hB1.block w.heap.size (by simp)).trans (heap_alloc_new w _)); have HLT := Lib.hid (show w.heap.size < w1.heap.size by have := hB1.size; simp at this; omega); have HR := Lib.hid hR; have HB1 := Lib.hid hB1; clear hR hB1)
   | (go_at_call 90; refine (sound_yes _).mono ?_; rintro e w2 ⟨rfl, rfl⟩)
   | (refine wpList_store_row rfl 24 _ _ rfl w.heap.size #[Value.int .i64 lv, Value.int .i64 tu, Value.int .i64 ne, Value.int .i64 lo, Value.slice A1 sl.length c1] rfl rfl 24 #[Value.int .i64 0, Value.int .i64 0, Value.int .i64 0, Value.int .i64 0, Value.slice none 0 0] ((Below.heap_alloc _ _ _ HLT.out).trans HROW.out) (by kernel_rfl) rfl (by simp [Value.oneCell']) ?_))
 refine bodyPost_ret (res_nodeOf rfl (setRow_heap _ _ _ _ _ _ ((Below.heap_alloc _ _ _ HLT.out).trans HROW.out)) rfl) rfl ⟨_, rfl, ?_, below_setRow ((((Below.refl _ _).alloc (Nat.le_refl _) _).next (HB1.out.alloc HB1.out.size _))) (Nat.le_refl _) _⟩
 have h1 := Kd.R_bound (Kd.R_alloc HR.out (.cells #[Value.int .i64 lv, Value.int .i64 tu, Value.int .i64 ne, Value.int .i64 lo, Value.slice A1 sl.length c1] 24))
 refine Kd.R_mono (Kd.R_lower (Kd.R_step h1 (fun k hk _ => setRow_else _ _ _ _ ?_)) (by simp)) (fun _ _ => trivial)
 have := hk.2.1
 simp at this
 omega
theorem keyOf_bad (A : Option Addr) (c : Nat) (ws : List Int) (b : Int) (w : World) (h : Kd.C (Kd.int .i64) w A ws.length ws) (hc : ws.length ≤ c) (hn : ws.length ≤ 1000000000) (hbad : ¬ (recRead ws b).2 = 0) :
    Calls Try.prog 89 #[.slice A ws.length c, .int .i64 b] w fun e w' => e = .panicked corruptChain ∧ Below w.heap.size w w' := by
 have HN := Lib.hid (fun W hW => recRead_any A c ws b W hW hc hn)
 have HC := Lib.hid h
 generalize recRead ws b = r at hbad HN
 obtain ⟨⟨k, key, val, ch⟩, er⟩ := r
 have he0 : (er == 0) = false := by simpa using hbad
 have hu24 := Try.underlying62
 go_enter Try.func89, Try.ntmps89
 go_wp2_with (first
   | (go_at_call 44; refine (HN.out _ HC.out).mono ?_; rintro e w1 ⟨rfl, hB1⟩)
   | (go_at_call 90; refine (sound_no _).mono ?_; rintro e w2 ⟨rfl, hB2⟩))
 exact ⟨rfl, rfl, (hB1.alloc hB1.size _).next hB2⟩
theorem keyOf_ok (A : Option Addr) (c : Nat) (ws : List Int) (b : Int) (w : World) (h : Kd.C (Kd.int .i64) w A ws.length ws) (hc : ws.length ≤ c) (hn : ws.length ≤ 1000000000) (hok : (recRead ws b).2 = 0) :
    Calls Try.prog 89 #[.slice A ws.length c, .int .i64 b] w fun e w' => e = .returned (.string (recRead ws b).1.key) ∧ Below w.heap.size w w' := by
 have HN := Lib.hid (fun W hW => recRead_any A c ws b W hW hc hn)
 have HC := Lib.hid h
 generalize recRead ws b = r at hok HN
 obtain ⟨⟨k, key, val, ch⟩, er⟩ := r
 subst hok
 have hu24 := Try.underlying62
 go_enter Try.func89, Try.ntmps89
 go_wp2_with (first
   | (go_at_call 44; refine (HN.out _ HC.out).mono ?_; rintro e w1 ⟨rfl, hB1⟩)
   | (go_at_call 90; refine (sound_yes _).mono ?_; rintro e w2 ⟨rfl, rfl⟩))
 go_ret
 exact ⟨rfl, hB1.alloc hB1.size _⟩
/-- From which key on a node is. -/
def lowOfP (ws : List Int) (low : Int) : ByteArray × Int := if low = 0 then (⟨#[]⟩, 0) else if (recRead ws low).2 = 0 then ((recRead ws low).1.key, 0) else (⟨#[]⟩, 110)
def lowRead (ws : List Int) (b : Int) : ByteArray × Int := if (nodeRead ws b).2 = 0 then lowOfP ws (nodeRead ws b).1.low else (⟨#[]⟩, 110)
theorem lowOf_bad (A : Option Addr) (c : Nat) (ws : List Int) (a1 a2 a3 lo : Int) (v : Value) (hv : v.oneCell' = true) (w : World) (h : Kd.C (Kd.int .i64) w A ws.length ws) (hc : ws.length ≤ c) (hn : ws.length ≤ 1000000000) (hbad : ¬ (lowOfP ws lo).2 = 0) :
    Calls Try.prog 49 #[.slice A ws.length c, .agg #[.int .i64 a1, .int .i64 a2, .int .i64 a3, .int .i64 lo, v]] w fun e w' => e = .panicked corruptChain ∧ Below w.heap.size w w' := by
 have hlo : ¬ lo = 0 := fun h0 => hbad (by unfold lowOfP; rw [if_pos h0])
 have hrec : ¬ (recRead ws lo).2 = 0 := fun h0 => hbad (by unfold lowOfP; rw [if_neg hlo, if_pos h0])
 have hlo2 : (lo == 0) = false := by simpa using hlo
 have HC := Lib.hid h
 clear hbad
 have hu24 := Try.underlying24
 go_enter Try.func49, Try.ntmps49
 go_wp2_with (first
   | (go_at_call 89; refine (keyOf_bad A c ws lo _ (Kd.C_alloc HC.out _) hc hn hrec).mono ?_; rintro e w1 ⟨rfl, hB1⟩))
 exact ⟨rfl, rfl, ((Below.refl _ _).alloc (Nat.le_refl _) _).next hB1⟩
theorem lowOf_ok (A : Option Addr) (c : Nat) (ws : List Int) (a1 a2 a3 lo : Int) (v : Value) (hv : v.oneCell' = true) (w : World) (h : Kd.C (Kd.int .i64) w A ws.length ws) (hc : ws.length ≤ c) (hn : ws.length ≤ 1000000000) (hok : (lowOfP ws lo).2 = 0) :
    Calls Try.prog 49 #[.slice A ws.length c, .agg #[.int .i64 a1, .int .i64 a2, .int .i64 a3, .int .i64 lo, v]] w fun e w' => e = .returned (.string (lowOfP ws lo).1) ∧ Below w.heap.size w w' := by
 have HC := Lib.hid h
 by_cases hlo : lo = 0
 · have hr : lowOfP ws lo = (⟨#[]⟩, 0) := by unfold lowOfP; rw [if_pos hlo]
   have HR := Lib.hid hr
   clear hr hok
   subst hlo
   have hu24 := Try.underlying24
   go_enter Try.func49, Try.ntmps49
   go_wp2
   go_ret
   exact ⟨by rw [HR.out]; rfl, (Below.refl _ _).alloc (Nat.le_refl _) _⟩
 have hrec : (recRead ws lo).2 = 0 := by
   unfold lowOfP at hok
   rw [if_neg hlo] at hok
   by_cases h2 : (recRead ws lo).2 = 0
   · exact h2
   · rw [if_neg h2] at hok; simp at hok
 have hr : (lowOfP ws lo).1 = (recRead ws lo).1.key := by unfold lowOfP; rw [if_neg hlo, if_pos hrec]
 have HR := Lib.hid hr
 have hlo2 : (lo == 0) = false := by simpa using hlo
 clear hr hok
 have hu24 := Try.underlying24
 go_enter Try.func49, Try.ntmps49
 go_wp2_with (first
   | (go_at_call 89; refine (keyOf_ok A c ws lo _ (Kd.C_alloc HC.out _) hc hn hrec).mono ?_; rintro e w1 ⟨rfl, hB1⟩))
 go_ret
 exact ⟨by rw [HR.out]; rfl, ((Below.refl _ _).alloc (Nat.le_refl _) _).next hB1⟩
theorem ecell {w w2 : World} {v : Value} {t : TypeId} (hb : Below (w.heap.size + 1) (w.alloc (.cells #[v] t)) w2) : w2.cell? ⟨w.heap.size, 0, none⟩ = some v ∧ w2.frozen? ⟨w.heap.size, 0, none⟩ = false := by
 have h := (hb.block w.heap.size (by omega)).trans (heap_alloc_new w (.cells #[v] t))
 exact ⟨cell_of_row _ _ _ _ _ _ h, frozen_of_row _ _ _ _ _ h⟩
theorem ecell1 {w w2 : World} {v : Value} {t : TypeId} (hb : Below (w.alloc (.cells #[v] t)).heap.size (w.alloc (.cells #[v] t)) w2) : w2.cell? ⟨w.heap.size, 0, none⟩ = some v ∧ w2.frozen? ⟨w.heap.size, 0, none⟩ = false :=
  ecell (by simpa using hb)
theorem settled {tmps : Array Value} {W : World} {g : Nat} {s : ByteArray} {x : Int} {R : Ending → World → Prop} {u : FrameMode} (hu : settle u = .returning) (h4 : tmps.getD 4 undef = .string s) (h5 : tmps.getD 5 undef = .pointer (some ⟨g, 0, none⟩))
    (hc : W.cell? ⟨g, 0, none⟩ = some (.int .i64 x)) (h : R (.returned (.tuple #[.string s, .int .i64 x])) W) : Leaves Try.prog Try.f22 tmps R [] (settle u) W := by
 rw [hu]
 have hr : (results Try.f22 tmps).run Try.prog W = .ok (.tuple #[.string s, .int .i64 x]) W := by
   rw [Array.getD_eq_getD_getElem?] at h4 h5
   simp [results, Try.results22, h4, h5, go_sem, hc]
 exact ⟨_, hr, h⟩
/-- What a look that ended at what is not sound leaves: an error, by the function that is put off. -/
theorem low_told {ws : List Int} {b : Int} {w w2 : World} {a : Act} (hds : a.defers = [{ target := .fn (.func 48) #[], args := #[.pointer (some ⟨w.heap.size, 0, none⟩)] }])
    (h4 : a.tmps.getD 4 undef = .string ⟨#[]⟩) (h5 : a.tmps.getD 5 undef = .pointer (some ⟨w.heap.size, 0, none⟩)) (hb : Below (w.alloc (.cells #[.int .i64 0] 26)).heap.size (w.alloc (.cells #[.int .i64 0] 26)) w2) (hr : lowRead ws b = (⟨#[]⟩, 110)) :
    bodyPostD Try.prog Try.f22 (fun e w' => e = .returned (.tuple #[.string (lowRead ws b).1, .int .i64 (lowRead ws b).2]) ∧ Below w.heap.size w w') (.panic corruptChain) a w2 := by
 obtain ⟨hc, hz⟩ := ecell1 hb
 obtain ⟨tmps, ds⟩ := a
 subst hds
 refine leaves_cons (f := 48) (args := #[.pointer (some ⟨w.heap.size, 0, none⟩)]) (by simp) (by simp [go_sem]) ?_
 refine (told_panicking ⟨w.heap.size, 0, none⟩ 0 _ hc hz).mono ?_
 rintro e u' w'' ⟨rfl, rfl, rfl⟩
 have hrow := (hb.block w.heap.size (by simp)).trans (heap_alloc_new w (.cells #[.int .i64 0] 26))
 have hrow1 := (heap_setCell_same _ _ 0 _ _ (.int .i64 110) ((Below.heap_alloc w2 (.cells #[] 106) w.heap.size (by have := hb.size; simp at this; omega)).trans hrow)).trans rfl
 have hcell := cell_of_row _ _ 0 _ _ _ hrow1
 refine settled rfl h4 h5 hcell ?_
 rw [hr]
 exact ⟨rfl, ((((Below.refl _ _).alloc (Nat.le_refl _) _).next hb).alloc (by have := hb.size; simp at this; omega) _).setCell (p := ⟨w.heap.size, 0, none⟩) (Nat.le_refl _) _⟩
/-- From which key on a node is, or its error. -/
theorem arenaLow_any (A : Option Addr) (c : Nat) (ws : List Int) (b : Int) (w : World) (h : Kd.C (Kd.int .i64) w A ws.length ws) (hc : ws.length ≤ c) (hn : ws.length ≤ 1000000000) :
    Calls Try.prog 22 #[.slice A ws.length c, .int .i64 b] w fun e w' => e = .returned (.tuple #[.string (lowRead ws b).1, .int .i64 (lowRead ws b).2]) ∧ Below w.heap.size w w' := by
 have HC := Lib.hid h
 by_cases hnode : (nodeRead ws b).2 = 0
 rotate_left
 · have hr2 : lowRead ws b = (⟨#[]⟩, 110) := by unfold lowRead; rw [if_neg hnode]
   have HR2 := Lib.hid hr2
   clear hr2
   have HN := Lib.hid (fun W hW => nodeOf_bad A c ws b W hW hc hn hnode)
   go_enter_defers Try.func22, Try.ntmps22
   go_wp2_with (first
     | (go_at_call 50; refine (HN.out _ (Kd.C_alloc HC.out _)).mono ?_; rintro e w1 ⟨rfl, hB1⟩))
   exact low_told rfl rfl rfl hB1 HR2.out
 have hr : lowRead ws b = lowOfP ws (nodeRead ws b).1.low := by unfold lowRead; rw [if_pos hnode]
 have HR := Lib.hid hr
 clear hr
 by_cases hlow : (lowOfP ws (nodeRead ws b).1.low).2 = 0
 · have HN := Lib.hid (fun W hW => nodeOf_ok A c ws b W hW hc hn hnode)
   go_enter_defers Try.func22, Try.ntmps22
   go_wp2_with (first
     | (go_at_call 50; refine (HN.out _ (Kd.C_alloc HC.out _)).mono ?_; rintro e w1 ⟨v, rfl, hR, hB1⟩; obtain ⟨A1, c1, rfl⟩ := Kd.R_slice hR; have HB1 := Lib.hid hB1; clear hB1 hR)
     | (go_at_call 49; refine (lowOf_ok A c ws _ _ _ _ _ rfl _ (Kd.C_below (Kd.C_alloc HC.out _) HB1.out) hc hn hlow).mono ?_; rintro e w2 ⟨rfl, hB2⟩; obtain ⟨hc2, hz2⟩ := ecell1 (HB1.out.next hB2)))
   refine leaves_cons (f := 48) (args := #[.pointer (some ⟨w.heap.size, 0, none⟩)]) (by simp) (by simp [go_sem]) ?_
   refine (told_idle ⟨w.heap.size, 0, none⟩ _).mono ?_
   rintro e u' w'' ⟨rfl, rfl, rfl⟩
   have hb := HB1.out.next hB2
   have hrow := (hb.block w.heap.size (by simp)).trans (heap_alloc_new w (.cells #[.int .i64 0] 26))
   have hrow1 := (heap_setCell_same _ _ 0 _ _ (.int .i64 0) hrow).trans rfl
   refine settled rfl rfl rfl (cell_of_row _ _ 0 _ _ _ hrow1) ?_
   rw [HR.out, ← hlow]
   exact ⟨rfl, (((Below.refl _ _).alloc (Nat.le_refl _) _).next hb).setCell (p := ⟨w.heap.size, 0, none⟩) (Nat.le_refl _) _⟩
 have HN := Lib.hid (fun W hW => nodeOf_ok A c ws b W hW hc hn hnode)
 have hr2 : lowRead ws b = (⟨#[]⟩, 110) := by
   rw [HR.out]
   unfold lowOfP at hlow ⊢
   split at hlow
   · simp at hlow
   · split at hlow
     · simp at hlow
     · rename_i h1 h2; rw [if_neg h1, if_neg h2]
 have HR2 := Lib.hid hr2
 clear hr2
 go_enter_defers Try.func22, Try.ntmps22
 go_wp2_with (first
   | (go_at_call 50; refine (HN.out _ (Kd.C_alloc HC.out _)).mono ?_; rintro e w1 ⟨v, rfl, hR, hB1⟩; obtain ⟨A1, c1, rfl⟩ := Kd.R_slice hR; have HB1 := Lib.hid hB1; clear hB1 hR)
   | (go_at_call 49; refine (lowOf_bad A c ws _ _ _ _ _ rfl _ (Kd.C_below (Kd.C_alloc HC.out _) HB1.out) hc hn hlow).mono ?_; rintro e w2 ⟨rfl, hB2⟩))
 exact low_told rfl rfl rfl (HB1.out.next hB2) HR2.out
end Go.Proofs.Ytliaemoomhfcdaa
namespace Go.Proofs.Ytliaemoomhfcdaa.SU
open Go.RowKit Go.Proofs.YtliaemoomhfcdaaW.PrintWords Go.Proofs.YtliaemoomhfcdaaW.PrintLast Go.Proofs.YtliaemoomhfcdaaW.PrintMore
attribute [local go_sem] max2_int min2_int max_two min_two max_three min_three max_four min_four   -- for this text's walks alone
set_option linter.unusedVariables false
set_option linter.unusedSimpArgs false
noncomputable section



def errW : Option Int → Value
  | none => .nilIface
  | some c => .iface 0 (.int .i64 c)
theorem errW_none : errW none = .nilIface := rfl
theorem errW_some (c : Int) : errW (some c) = .iface 0 (.int .i64 c) := rfl

theorem info3 : (Try.prog.info? 3).map (fun i => (i.zero, i.size, i.bytes)) = some (some (.int .i64 0), 1, 8) := by kernel_rfl
-- the values' own types
def rd_L1 (xs : List (List Int)) (i : Int) : (List Int) := xs.getD i.toNat ([] : List Int)
theorem at_L1 {w : World} {A : Option Addr} {n : Nat} {xs : List (List Int)} (h : Kd.C (Kd.slice 3 (Kd.int .i64)) w A n xs) (i : Int) (h0 : 0 ≤ i) (h1 : i < n) : ∃ ad A0 c0, A = some ad ∧ w.cell? (ad.add i.toNat) = some (.slice A0 (rd_L1 xs i).length c0) ∧ (rd_L1 xs i).length ≤ c0 ∧ (Kd.int .i64).C w A0 (rd_L1 xs i).length (rd_L1 xs i) := by
 obtain ⟨ad, c, e, _, hK, hc0⟩ := Kd.C_get h ([] : List Int) i h0 h1
 have hc : ∀ j u, c[j]? = some u → w.cell? (ad.add (i.toNat * 1 + j)) = some u := hc0
 obtain ⟨A0, c0, rfl, l0, g0⟩ := hK
 exact ⟨ad, A0, c0, e, by have hq := hc 0 _ rfl; rwa [Nat.mul_one, Nat.add_zero] at hq, l0, g0⟩

end
end Go.Proofs.Ytliaemoomhfcdaa.SU
namespace Go.Proofs.Ytliaemoomhfcdaa.SU
open Go.RowKit Go.Proofs.YtliaemoomhfcdaaW.PrintWords Go.Proofs.YtliaemoomhfcdaaW.PrintLast Go.Proofs.YtliaemoomhfcdaaW.PrintMore
set_option linter.unusedVariables false
set_option linter.unusedSimpArgs false
noncomputable section

def sum_Of.f (l0 : List Int) : Option Int := if l0.length ≤ 1000000 then some (sumOf l0) else none
theorem sum_Of.calls (A0 : Option Addr) (c0 : Nat) (l0 : List Int) (r : Int) (w : World) (hr0 : Kd.C (Kd.int .i64) w A0 l0.length l0) (hc0 : l0.length ≤ c0) (h : sum_Of.f l0 = some r) :
    Calls Try.prog 98 #[.slice A0 l0.length c0] w fun e w' => e = .returned (.int .i64 r) ∧ Below w.heap.size w w' := by
 unfold sum_Of.f at h
 split at h
 · rename_i hs
   injection h with h
   subst h
   exact of_call A0 l0.length c0 l0 w (reads_of_RI (RI_of_C hr0)) hs
 cases h
end
end Go.Proofs.Ytliaemoomhfcdaa.SU
namespace Go.Proofs.Ytliaemoomhfcdaa.SU
open Go.RowKit Go.Proofs.YtliaemoomhfcdaaW.PrintWords Go.Proofs.YtliaemoomhfcdaaW.PrintLast Go.Proofs.YtliaemoomhfcdaaW.PrintMore
attribute [local go_sem] max2_int min2_int max_two min_two max_three min_three max_four min_four   -- for this text's walks alone
set_option linter.unusedVariables false
set_option linter.unusedSimpArgs false
noncomputable section

theorem eqA90 (d : Nat) (w : World) (x0 y0 : Int) (x1 y1 : Int) (x2 y2 : Int) (x3 y3 : Int) :
    (Op.equalIn (d + 2) 90 (.agg #[.int .i64 x0, .int .i64 x1, .int .i64 x2, .int .i64 x3]) (.agg #[.int .i64 y0, .int .i64 y1, .int .i64 y2, .int .i64 y3])).run Try.prog w = .ok (x0 == y0 && (x1 == y1 && (x2 == y2 && (x3 == y3)))) w := by
 refine eqA_of Try.underlying90 (by kernel_rfl) ?_
 refine eqf_cons (by rfl) (by go_simp; rfl) (by go_simp; rfl) (by go_simp) ?_
 refine eqf_cons (by rfl) (by go_simp; rfl) (by go_simp; rfl) (by go_simp) ?_
 refine eqf_cons (by rfl) (by go_simp; rfl) (by go_simp; rfl) (by go_simp) ?_
 exact eqf_last (by rfl) (by go_simp; rfl) (by go_simp; rfl) (by go_simp)
end
end Go.Proofs.Ytliaemoomhfcdaa.SU
namespace Go.Proofs.Ytliaemoomhfcdaa.SU
open Go.RowKit Go.Proofs.YtliaemoomhfcdaaW.PrintWords Go.Proofs.YtliaemoomhfcdaaW.PrintLast Go.Proofs.YtliaemoomhfcdaaW.PrintMore
attribute [local go_sem] max2_int min2_int max_two min_two max_three min_three max_four min_four   -- for this text's walks alone
set_option linter.unusedVariables false
set_option linter.unusedSimpArgs false
noncomputable section

/-! ### super_of: function 67 -/
def super_of.f (a0 : Int) (a1 : Int) : Option (Int × Int × Int × Int) := (sum_Of.f (([7015, a0] : List Int))).bind fun t105 => (some (7015, a0, t105, a1))
set_option maxHeartbeats 8000000 in
set_option maxRecDepth 100000 in
theorem super_of.calls (a0 : Int) (a1 : Int) (r1 : Int) (r2 : Int) (r3 : Int) (r4 : Int) (w : World) (h : super_of.f a0 a1 = some (r1, r2, r3, r4)) :
    Calls Try.prog 67 #[.int .i64 a0, .int .i64 a1] w fun e w' => e = .returned (.agg #[.int .i64 r1, .int .i64 r2, .int .i64 r3, .int .i64 r4]) ∧ Below w.heap.size w w' := by
 have hu90 := Try.underlying90
 have HB := Aside0.mk (Below.refl w.heap.size w)
 have H : ((sum_Of.f (([7015, a0] : List Int))).bind fun t105 => (some (7015, a0, t105, a1))) = some (r1, r2, r3, r4) := h
 clear h
 obtain ⟨y102, hy102⟩ : ∃ y_ : List Int, y_ = (([7015, a0] : List Int)) := ⟨_, rfl⟩
 replace H : ((sum_Of.f y102).bind fun t105 => (some (7015, a0, t105, a1))) = some (r1, r2, r3, r4) := by first | (rw [hy102]; with_reducible exact H) | (have H2_ := (Option.bind_some _ _).symm.trans H; rw [hy102]; with_reducible exact H2_) | (have H2_ := (Option.bind_some _ _).symm.trans H; with_reducible exact H2_) | with_reducible exact H | (rw [hy102]; exact H) | exact H
 have Ny102 := Aside0.mk hy102
 clear hy102
 replace H := Option.bind_eq_some_iff.mp H
 obtain ⟨t105, A30, H⟩ := H
 replace H : (some (7015, a0, t105, a1)) = some (r1, r2, r3, r4) := H
 have A3 := Aside0.mk A30
 clear A30
 simp only [Option.some.injEq, Prod.mk.injEq] at H
 obtain ⟨rfl, rfl, rfl, rfl⟩ := H
 go_enter Try.func67, Try.ntmps67
 go_wp2_with (first | ((with_reducible refine gate_dst (N := 4) rfl ?_); refine box_event ?hg (N := 4) ?hd (cs := #[.int .i64 0, .int .i64 0, .int .i64 0, .int .i64 0]) (t := 90) ?hr ?_; (case hd => rfl); (case hg => rfl); (case hr => first | (go_simp; done) | (go_simp; rfl)); intro gb101 hg w4 hbox hb; have n0_ := Aside0.mk (below_step qh_ hb); have n1_ := Aside0.mk (hbox); have n2_ := Aside0.mk ((by rw [hg]; exact (below_size qh_) : w.heap.size ≤ gb101)); have n3_ := Aside0.mk ((by rw [hg]; exact (below_size qh_) : w.heap.size ≤ gb101)); clear HB; have HB := n0_; have BK101 := n1_; have GW101 := n2_; have GE101 := n3_; clear n0_ n1_ n2_ n3_; clear hb hbox hg) | ((with_reducible refine gate_dst (N := 7) rfl ?_); refine Kd.R_lit (Kd.int .i64) _ 3 ?hg (N := 7) ?hd (xs := ([7015, a0] : List Int)) (inner := [.int .i64 7015, .int .i64 a0]) (ok := fun _ => True) (okp := fun _ => True) ?hr ?hp (fun _ hk => hk) trivial (Below.refl _ _) (Nat.le_refl _) (by simp) ?_; (case hd => rfl); (case hg => rfl); (case hr => first | (go_simp; done) | (go_simp; rfl)); (case hp => exact (Reps.one (show Kd.M (Kd.int .i64) _ _ _ 7015 [.int .i64 7015] from rfl) (Reps.one (show Kd.M (Kd.int .i64) _ _ _ a0 [.int .i64 a0] from rfl) (Reps.none _ _)))); intro v103 w5 ho6 hb hg_ hnew_; clear hg_ hnew_; (first | rw [← Ny102.out] at ho6 | (simp only [Int.reduceToNat] at ho6; rw [← Ny102.out] at ho6)); have n0_ := Aside0.mk (Kd.R_lower ho6 (below_size (qg1_ GE101.out))); have n1_ := Aside0.mk (blk_below (g := gb101) (o := .cells #[.int .i64 0, .int .i64 0, .int .i64 0, .int .i64 0] 90 (0, 0)) (qb_ BK101.out) hb); have n2_ := Aside0.mk (below_step (qg1_ GE101.out) hb); clear BK101; clear HB; have HO104 := n0_; have BK101 := n1_; have HB := n2_; clear n0_ n1_ n2_; clear hb ho6; obtain ⟨Ao7, co7, eo7⟩ := Kd.R_slice HO104.out; subst eo7) | ((with_reducible refine gate_callee (f := 98) rfl ?_); refine goesL_ (some 8) rfl rfl Try.func98 (by kernel_rfl) rfl #[.slice Ao7 y102.length co7] rfl qm_ ?_; (with_reducible refine (sum_Of.calls _ _ y102 t105 _ ?side1 ?side2 A3.out).mono ?_); (case side1 => repeat (first | exact (Kd.R_reads' HO104.out).2.2 | (with_reducible refine Kd.C_alloc ?_ _) | (with_reducible refine Kd.C_drewN ?_ _) | (with_reducible refine Kd.C_drew ?_))); (case side2 => exact (Kd.R_reads' HO104.out).2.1); rintro e w8 ⟨rfl, hb⟩; refine ⟨_, rfl, ?_⟩; have n0_ := Aside0.mk (Kd.R_below (qr_ HO104.out) hb); have n1_ := Aside0.mk (blk_below (g := gb101) (o := .cells #[.int .i64 0, .int .i64 0, .int .i64 0, .int .i64 0] 90 (0, 0)) (qb_ BK101.out) hb); have n2_ := Aside0.mk (below_step (qg1_ GE101.out) hb); clear HO104; clear BK101; clear HB; have HO104 := n0_; have BK101 := n1_; have HB := n2_; clear n0_ n1_ n2_; (try clear hb); (try clear hb2); (try clear hk); (try clear hi); have hcz9_0 : w8.cell? ⟨gb101, 0, none⟩ = some (.int .i64 0) := (blk_cell BK101.out 0).trans rfl; have hcz9_1 : w8.cell? ⟨gb101, 1, none⟩ = some (.int .i64 0) := (blk_cell BK101.out 1).trans rfl; have hcz9_2 : w8.cell? ⟨gb101, 2, none⟩ = some (.int .i64 0) := (blk_cell BK101.out 2).trans rfl; have hcz9_3 : w8.cell? ⟨gb101, 3, none⟩ = some (.int .i64 0) := (blk_cell BK101.out 3).trans rfl; have hfz9_0 := blk_frozen BK101.out 0; have hfz9_1 := blk_frozen BK101.out 1; have hfz9_2 := blk_frozen BK101.out 2; have hfz9_3 := blk_frozen BK101.out 3))
 refine bodyPost_ret (results_cell_row rfl _ _ gb101 90 #[.int .i64 7015, .int .i64 a0, .int .i64 t105, .int .i64 a1] (0, 0) _ rfl (by (with_reducible repeat (first | refine blk_drewN ?_ _ | refine blk_drew ?_ | refine blk_alloc ?_ _)); refine blk_put (cs := #[.int .i64 7015, .int .i64 a0, .int .i64 t105, .int .i64 0]) ?_ 3 _ rfl; (with_reducible repeat (first | refine blk_drewN ?_ _ | refine blk_drew ?_ | refine blk_alloc ?_ _)); refine blk_put (cs := #[.int .i64 7015, .int .i64 a0, .int .i64 0, .int .i64 0]) ?_ 2 _ rfl; (with_reducible repeat (first | refine blk_drewN ?_ _ | refine blk_drew ?_ | refine blk_alloc ?_ _)); refine blk_put (cs := #[.int .i64 7015, .int .i64 0, .int .i64 0, .int .i64 0]) ?_ 1 _ rfl; (with_reducible repeat (first | refine blk_drewN ?_ _ | refine blk_drew ?_ | refine blk_alloc ?_ _)); refine blk_put (cs := #[.int .i64 0, .int .i64 0, .int .i64 0, .int .i64 0]) ?_ 0 _ rfl; (with_reducible repeat (first | refine blk_drewN ?_ _ | refine blk_drew ?_ | refine blk_alloc ?_ _)); exact BK101.out) Try.underlying90 rfl (by kernel_rfl)) rfl ?_
 exact ⟨qe_, by repeat (first | (with_reducible first | exact HB.out | apply below_alloc | apply pw_below_drewN | apply below_drew1 | refine below_set ?_ GE101.out) | exact HB.out)⟩

/-! ### super_head_may: function 68 -/
def super_head_may.f (a0_0 : Int) (a0_1 : Int) (a0_2 : Int) (a0_3 : Int) : Option (Bool) := if a0_1 ≥ 2 then (if a0_1 ≤ 256 then (if a0_3 ≥ 1 then (some (decide (a0_3 < a0_1))) else (some false)) else (some false)) else (some false)
set_option maxHeartbeats 8000000 in
set_option maxRecDepth 100000 in
theorem super_head_may.calls (a0_0 : Int) (a0_1 : Int) (a0_2 : Int) (a0_3 : Int) (r : Bool) (w : World) (h : super_head_may.f a0_0 a0_1 a0_2 a0_3 = some r) :
    Calls Try.prog 68 #[.agg #[.int .i64 a0_0, .int .i64 a0_1, .int .i64 a0_2, .int .i64 a0_3]] w fun e w' => e = .returned (.bool r) ∧ Below w.heap.size w w' := by
 have hu90 := Try.underlying90
 have HB := Aside0.mk (Below.refl w.heap.size w)
 have H : (if a0_1 ≥ 2 then (if a0_1 ≤ 256 then (if a0_3 ≥ 1 then (some (decide (a0_3 < a0_1))) else (some false)) else (some false)) else (some false)) = some r := h
 clear h
 by_cases c2 : a0_1 ≥ 2
 rotate_left
 · rw [if_neg c2] at H
   have c2b0 : decide (2 ≤ a0_1) = false := decide_eq_false c2
   clear c2
   obtain rfl := Option.some.inj H
   go_enter Try.func68, Try.ntmps68
   go_wp2_with (first | ((with_reducible refine gate_dst (N := 1) rfl ?_); refine box_event ?hg (N := 1) ?hd (cs := #[.int .i64 a0_0, .int .i64 a0_1, .int .i64 a0_2, .int .i64 a0_3]) (t := 90) ?hr ?_; (case hd => rfl); (case hg => rfl); (case hr => first | (go_simp; done) | (go_simp; rfl)); intro gb106 hg w11 hbox hb; have n0_ := Aside0.mk (below_step qh_ hb); have n1_ := Aside0.mk (hbox); have n2_ := Aside0.mk ((by rw [hg]; exact (below_size qh_) : w.heap.size ≤ gb106)); have n3_ := Aside0.mk ((by rw [hg]; exact (below_size qh_) : w.heap.size ≤ gb106)); clear HB; have HB := n0_; have BK106 := n1_; have GW106 := n2_; have GE106 := n3_; clear n0_ n1_ n2_ n3_; clear hb hbox hg; have hcz12_0 : w11.cell? ⟨gb106, 0, none⟩ = some (.int .i64 a0_0) := (blk_cell BK106.out 0).trans rfl; have hcz12_1 : w11.cell? ⟨gb106, 1, none⟩ = some (.int .i64 a0_1) := (blk_cell BK106.out 1).trans rfl; have hcz12_2 : w11.cell? ⟨gb106, 2, none⟩ = some (.int .i64 a0_2) := (blk_cell BK106.out 2).trans rfl; have hcz12_3 : w11.cell? ⟨gb106, 3, none⟩ = some (.int .i64 a0_3) := (blk_cell BK106.out 3).trans rfl; have hfz12_0 := blk_frozen BK106.out 0; have hfz12_1 := blk_frozen BK106.out 1; have hfz12_2 := blk_frozen BK106.out 2; have hfz12_3 := blk_frozen BK106.out 3))
   go_ret
   exact ⟨qe_, by repeat (first | (with_reducible first | exact HB.out | apply below_alloc | apply pw_below_drewN | apply below_drew1 | refine below_set ?_ GE106.out) | exact HB.out)⟩
 rw [if_pos c2] at H
 have c2b0 : decide (2 ≤ a0_1) = true := decide_eq_true c2
 clear c2
 by_cases c3 : a0_1 ≤ 256
 rotate_left
 · rw [if_neg c3] at H
   have c3b0 : decide (a0_1 ≤ 256) = false := decide_eq_false c3
   clear c3
   obtain rfl := Option.some.inj H
   go_enter Try.func68, Try.ntmps68
   go_wp2_with (first | ((with_reducible refine gate_dst (N := 1) rfl ?_); refine box_event ?hg (N := 1) ?hd (cs := #[.int .i64 a0_0, .int .i64 a0_1, .int .i64 a0_2, .int .i64 a0_3]) (t := 90) ?hr ?_; (case hd => rfl); (case hg => rfl); (case hr => first | (go_simp; done) | (go_simp; rfl)); intro gb106 hg w9 hbox hb; have n0_ := Aside0.mk (below_step qh_ hb); have n1_ := Aside0.mk (hbox); have n2_ := Aside0.mk ((by rw [hg]; exact (below_size qh_) : w.heap.size ≤ gb106)); have n3_ := Aside0.mk ((by rw [hg]; exact (below_size qh_) : w.heap.size ≤ gb106)); clear HB; have HB := n0_; have BK106 := n1_; have GW106 := n2_; have GE106 := n3_; clear n0_ n1_ n2_ n3_; clear hb hbox hg; have hcz10_0 : w9.cell? ⟨gb106, 0, none⟩ = some (.int .i64 a0_0) := (blk_cell BK106.out 0).trans rfl; have hcz10_1 : w9.cell? ⟨gb106, 1, none⟩ = some (.int .i64 a0_1) := (blk_cell BK106.out 1).trans rfl; have hcz10_2 : w9.cell? ⟨gb106, 2, none⟩ = some (.int .i64 a0_2) := (blk_cell BK106.out 2).trans rfl; have hcz10_3 : w9.cell? ⟨gb106, 3, none⟩ = some (.int .i64 a0_3) := (blk_cell BK106.out 3).trans rfl; have hfz10_0 := blk_frozen BK106.out 0; have hfz10_1 := blk_frozen BK106.out 1; have hfz10_2 := blk_frozen BK106.out 2; have hfz10_3 := blk_frozen BK106.out 3))
   go_ret
   exact ⟨qe_, by repeat (first | (with_reducible first | exact HB.out | apply below_alloc | apply pw_below_drewN | apply below_drew1 | refine below_set ?_ GE106.out) | exact HB.out)⟩
 rw [if_pos c3] at H
 have c3b0 : decide (a0_1 ≤ 256) = true := decide_eq_true c3
 clear c3
 by_cases c4 : a0_3 ≥ 1
 · rw [if_pos c4] at H
   have c4b0 : decide (1 ≤ a0_3) = true := decide_eq_true c4
   clear c4
   obtain rfl := Option.some.inj H
   go_enter Try.func68, Try.ntmps68
   go_wp2_with (first | ((with_reducible refine gate_dst (N := 1) rfl ?_); refine box_event ?hg (N := 1) ?hd (cs := #[.int .i64 a0_0, .int .i64 a0_1, .int .i64 a0_2, .int .i64 a0_3]) (t := 90) ?hr ?_; (case hd => rfl); (case hg => rfl); (case hr => first | (go_simp; done) | (go_simp; rfl)); intro gb106 hg w5 hbox hb; have n0_ := Aside0.mk (below_step qh_ hb); have n1_ := Aside0.mk (hbox); have n2_ := Aside0.mk ((by rw [hg]; exact (below_size qh_) : w.heap.size ≤ gb106)); have n3_ := Aside0.mk ((by rw [hg]; exact (below_size qh_) : w.heap.size ≤ gb106)); clear HB; have HB := n0_; have BK106 := n1_; have GW106 := n2_; have GE106 := n3_; clear n0_ n1_ n2_ n3_; clear hb hbox hg; have hcz6_0 : w5.cell? ⟨gb106, 0, none⟩ = some (.int .i64 a0_0) := (blk_cell BK106.out 0).trans rfl; have hcz6_1 : w5.cell? ⟨gb106, 1, none⟩ = some (.int .i64 a0_1) := (blk_cell BK106.out 1).trans rfl; have hcz6_2 : w5.cell? ⟨gb106, 2, none⟩ = some (.int .i64 a0_2) := (blk_cell BK106.out 2).trans rfl; have hcz6_3 : w5.cell? ⟨gb106, 3, none⟩ = some (.int .i64 a0_3) := (blk_cell BK106.out 3).trans rfl; have hfz6_0 := blk_frozen BK106.out 0; have hfz6_1 := blk_frozen BK106.out 1; have hfz6_2 := blk_frozen BK106.out 2; have hfz6_3 := blk_frozen BK106.out 3))
   go_ret
   exact ⟨qe_, by repeat (first | (with_reducible first | exact HB.out | apply below_alloc | apply pw_below_drewN | apply below_drew1 | refine below_set ?_ GE106.out) | exact HB.out)⟩
 rw [if_neg c4] at H
 have c4b0 : decide (1 ≤ a0_3) = false := decide_eq_false c4
 clear c4
 obtain rfl := Option.some.inj H
 go_enter Try.func68, Try.ntmps68
 go_wp2_with (first | ((with_reducible refine gate_dst (N := 1) rfl ?_); refine box_event ?hg (N := 1) ?hd (cs := #[.int .i64 a0_0, .int .i64 a0_1, .int .i64 a0_2, .int .i64 a0_3]) (t := 90) ?hr ?_; (case hd => rfl); (case hg => rfl); (case hr => first | (go_simp; done) | (go_simp; rfl)); intro gb106 hg w7 hbox hb; have n0_ := Aside0.mk (below_step qh_ hb); have n1_ := Aside0.mk (hbox); have n2_ := Aside0.mk ((by rw [hg]; exact (below_size qh_) : w.heap.size ≤ gb106)); have n3_ := Aside0.mk ((by rw [hg]; exact (below_size qh_) : w.heap.size ≤ gb106)); clear HB; have HB := n0_; have BK106 := n1_; have GW106 := n2_; have GE106 := n3_; clear n0_ n1_ n2_ n3_; clear hb hbox hg; have hcz8_0 : w7.cell? ⟨gb106, 0, none⟩ = some (.int .i64 a0_0) := (blk_cell BK106.out 0).trans rfl; have hcz8_1 : w7.cell? ⟨gb106, 1, none⟩ = some (.int .i64 a0_1) := (blk_cell BK106.out 1).trans rfl; have hcz8_2 : w7.cell? ⟨gb106, 2, none⟩ = some (.int .i64 a0_2) := (blk_cell BK106.out 2).trans rfl; have hcz8_3 : w7.cell? ⟨gb106, 3, none⟩ = some (.int .i64 a0_3) := (blk_cell BK106.out 3).trans rfl; have hfz8_0 := blk_frozen BK106.out 0; have hfz8_1 := blk_frozen BK106.out 1; have hfz8_2 := blk_frozen BK106.out 2; have hfz8_3 := blk_frozen BK106.out 3))
 go_ret
 exact ⟨qe_, by repeat (first | (with_reducible first | exact HB.out | apply below_alloc | apply pw_below_drewN | apply below_drew1 | refine below_set ?_ GE106.out) | exact HB.out)⟩

end
end Go.Proofs.Ytliaemoomhfcdaa.SU
namespace Go.Proofs.Ytliaemoomhfcdaa
open Go.RowKit Go.Proofs.YtliaemoomhfcdaaW.PrintWords
set_option maxHeartbeats 4000000
set_option maxRecDepth 100000
set_option linter.unusedVariables false
set_option linter.unusedSimpArgs false

theorem addr_add0 (g j : Nat) : (⟨g, 0, none⟩ : Addr).add j = ⟨g, j, none⟩ := by unfold Addr.add; split <;> simp_all
theorem superOf_any (b r : Int) (w : World) : Calls Try.prog 67 #[.int .i64 b, .int .i64 r] w fun e w' => e = .returned (.agg #[.int .i64 7015, .int .i64 b, .int .i64 (sumOf [7015, b]), .int .i64 r]) ∧ Below w.heap.size w w' :=
  SU.super_of.calls b r _ _ _ _ w (by unfold SU.super_of.f SU.sum_Of.f; rw [if_pos (by simp)]; rfl)
theorem superMay_any (m b c r : Int) (w : World) : Calls Try.prog 68 #[.agg #[.int .i64 m, .int .i64 b, .int .i64 c, .int .i64 r]] w fun e w' => e = .returned (.bool (superMay b r)) ∧ Below w.heap.size w w' :=
  SU.super_head_may.calls m b c r _ w (by
    unfold SU.super_head_may.f superMay
    by_cases h1 : b ≥ 2
    · rw [if_pos h1, decide_eq_true h1]
      by_cases h2 : b ≤ 256
      · rw [if_pos h2, decide_eq_true h2]
        by_cases h3 : r ≥ 1
        · rw [if_pos h3, decide_eq_true h3]; rfl
        · rw [if_neg h3, decide_eq_false h3]; rfl
      · rw [if_neg h2, decide_eq_false h2]; rfl
    · rw [if_neg h1, decide_eq_false h1]; rfl)
/-- A first block's words. -/
def superList (b r : Int) : List Int := [7015, b, sumOf [7015, b], r, 0, 0, 0, 0, 0, 0, 0, 0, 0, 0, 0, 0]
theorem superWords_bad (b r : Int) (w : World) (hbad : superMay b r = false) : Calls Try.prog 74 #[.int .i64 b, .int .i64 r] w fun e w' => e = .returned (.tuple #[.slice none 0 0, .int .i64 1]) ∧ Below w.heap.size w w' := by
 have hu := Try.underlying90
 go_enter Try.func74, Try.ntmps74
 go_wp2_with fail
 refine (superOf_any b r _).mono ?_
 rintro e w1 ⟨rfl, hB1⟩
 have HB := Lib.hid hB1
 clear hB1
 go_wp2_with (first
   | (refine wpList_load_row rfl 90 _ rfl w1.heap.size rfl 90 _ (0, 0) _ (heap_alloc_new _ _) hu rfl (by kernel_rfl) ?_)
   | (go_at_call 68; refine (superMay_any _ _ _ _ _).mono ?_; rintro e w2 ⟨rfl, hB2⟩; rw [hbad]))
 go_ret2
 exact ⟨rfl, (HB.out.alloc HB.out.size _).next hB2⟩
theorem superWords_ok (b r : Int) (w : World) (hok : superMay b r = true) : Calls Try.prog 74 #[.int .i64 b, .int .i64 r] w (OwnTwo w (superList b r) 0) := by
 have hu := Try.underlying90
 have hmk : ∀ w, (Instr.makeSlice 22 (.int .i64 16) (.int .i64 16)).run Try.prog w = .ok (.slice (some ⟨w.heap.size, 0, none⟩) 16 16) (w.alloc (.cells #[.int .i64 0, .int .i64 0, .int .i64 0, .int .i64 0, .int .i64 0, .int .i64 0, .int .i64 0, .int .i64 0, .int .i64 0, .int .i64 0, .int .i64 0, .int .i64 0, .int .i64 0, .int .i64 0, .int .i64 0, .int .i64 0] 3)) := fun w => by rw [← made16]; exact run_make_row' (P := Try.prog) 22 3 (.int .i64 0) 8 Try.underlying22 int_info rfl .i64 .i64 16 (by omega) (by omega) w
 go_enter Try.func74, Try.ntmps74
 go_wp2_with fail
 refine (superOf_any b r _).mono ?_
 rintro e w1 ⟨rfl, hB1⟩
 have HB := Lib.hid hB1
 clear hB1
 go_upto_region 5 with (first
   | (refine wpList_load_row rfl 90 _ rfl w1.heap.size rfl 90 _ (0, 0) _ (heap_alloc_new _ _) hu rfl (by kernel_rfl) ?_)
   | (go_at_call 68; refine (superMay_any _ _ _ _ _).mono ?_; rintro e w2 ⟨rfl, hB2⟩; rw [hok]))
 have hsz : w1.heap.size < w2.heap.size := Nat.lt_of_lt_of_le (by simp) hB2.size
 have hrow : (w2.alloc (.cells #[Value.int .i64 0, Value.int .i64 0, Value.int .i64 0, Value.int .i64 0, Value.int .i64 0, Value.int .i64 0, Value.int .i64 0, Value.int .i64 0, Value.int .i64 0, Value.int .i64 0, Value.int .i64 0, Value.int .i64 0, Value.int .i64 0, Value.int .i64 0, Value.int .i64 0, Value.int .i64 0] 3)).heap[w1.heap.size]? = some (.cells #[.int .i64 7015, .int .i64 b, .int .i64 (sumOf [7015, b]), .int .i64 r] 90 (0, 0)) := (Below.heap_alloc w2 (.cells #[Value.int .i64 0, Value.int .i64 0, Value.int .i64 0, Value.int .i64 0, Value.int .i64 0, Value.int .i64 0, Value.int .i64 0, Value.int .i64 0, Value.int .i64 0, Value.int .i64 0, Value.int .i64 0, Value.int .i64 0, Value.int .i64 0, Value.int .i64 0, Value.int .i64 0, Value.int .i64 0] 3) w1.heap.size hsz).trans ((hB2.block w1.heap.size (by simp)).trans (heap_alloc_new _ _))
 have c0 : (w2.alloc (.cells #[Value.int .i64 0, Value.int .i64 0, Value.int .i64 0, Value.int .i64 0, Value.int .i64 0, Value.int .i64 0, Value.int .i64 0, Value.int .i64 0, Value.int .i64 0, Value.int .i64 0, Value.int .i64 0, Value.int .i64 0, Value.int .i64 0, Value.int .i64 0, Value.int .i64 0, Value.int .i64 0] 3)).cell? ⟨w1.heap.size, 0, none⟩ = some (.int .i64 7015) := (cell_of_row _ _ _ _ _ _ hrow).trans rfl
 have c1 : (w2.alloc (.cells #[Value.int .i64 0, Value.int .i64 0, Value.int .i64 0, Value.int .i64 0, Value.int .i64 0, Value.int .i64 0, Value.int .i64 0, Value.int .i64 0, Value.int .i64 0, Value.int .i64 0, Value.int .i64 0, Value.int .i64 0, Value.int .i64 0, Value.int .i64 0, Value.int .i64 0, Value.int .i64 0] 3)).cell? ⟨w1.heap.size, 1, none⟩ = some (.int .i64 b) := (cell_of_row _ _ _ _ _ _ hrow).trans rfl
 have c2 : (w2.alloc (.cells #[Value.int .i64 0, Value.int .i64 0, Value.int .i64 0, Value.int .i64 0, Value.int .i64 0, Value.int .i64 0, Value.int .i64 0, Value.int .i64 0, Value.int .i64 0, Value.int .i64 0, Value.int .i64 0, Value.int .i64 0, Value.int .i64 0, Value.int .i64 0, Value.int .i64 0, Value.int .i64 0] 3)).cell? ⟨w1.heap.size, 2, none⟩ = some (.int .i64 (sumOf [7015, b])) := (cell_of_row _ _ _ _ _ _ hrow).trans rfl
 have c3 : (w2.alloc (.cells #[Value.int .i64 0, Value.int .i64 0, Value.int .i64 0, Value.int .i64 0, Value.int .i64 0, Value.int .i64 0, Value.int .i64 0, Value.int .i64 0, Value.int .i64 0, Value.int .i64 0, Value.int .i64 0, Value.int .i64 0, Value.int .i64 0, Value.int .i64 0, Value.int .i64 0, Value.int .i64 0] 3)).cell? ⟨w1.heap.size, 3, none⟩ = some (.int .i64 r) := (cell_of_row _ _ _ _ _ _ hrow).trans rfl
 have hnew : ((w2.alloc (.cells #[Value.int .i64 0, Value.int .i64 0, Value.int .i64 0, Value.int .i64 0, Value.int .i64 0, Value.int .i64 0, Value.int .i64 0, Value.int .i64 0, Value.int .i64 0, Value.int .i64 0, Value.int .i64 0, Value.int .i64 0, Value.int .i64 0, Value.int .i64 0, Value.int .i64 0, Value.int .i64 0] 3)).alloc (.cells #[.int .i64 7015, .int .i64 b, .int .i64 (sumOf [7015, b]), .int .i64 r] 3)).heap[w2.heap.size]? = some (.cells ([Value.int .i64 0, Value.int .i64 0, Value.int .i64 0, Value.int .i64 0, Value.int .i64 0, Value.int .i64 0, Value.int .i64 0, Value.int .i64 0, Value.int .i64 0, Value.int .i64 0, Value.int .i64 0, Value.int .i64 0, Value.int .i64 0, Value.int .i64 0, Value.int .i64 0, Value.int .i64 0] : List Value).toArray 3 (0, 0)) := (Below.heap_alloc _ _ _ (by simp)).trans (heap_alloc_new _ _)
 have hsrc : ((w2.alloc (.cells #[Value.int .i64 0, Value.int .i64 0, Value.int .i64 0, Value.int .i64 0, Value.int .i64 0, Value.int .i64 0, Value.int .i64 0, Value.int .i64 0, Value.int .i64 0, Value.int .i64 0, Value.int .i64 0, Value.int .i64 0, Value.int .i64 0, Value.int .i64 0, Value.int .i64 0, Value.int .i64 0] 3)).alloc (.cells #[.int .i64 7015, .int .i64 b, .int .i64 (sumOf [7015, b]), .int .i64 r] 3)).heap[w2.heap.size + 1]? = some (.cells #[.int .i64 7015, .int .i64 b, .int .i64 (sumOf [7015, b]), .int .i64 r] 3 (0, 0)) := by
   have := heap_alloc_new (w2.alloc (.cells #[Value.int .i64 0, Value.int .i64 0, Value.int .i64 0, Value.int .i64 0, Value.int .i64 0, Value.int .i64 0, Value.int .i64 0, Value.int .i64 0, Value.int .i64 0, Value.int .i64 0, Value.int .i64 0, Value.int .i64 0, Value.int .i64 0, Value.int .i64 0, Value.int .i64 0, Value.int .i64 0] 3)) (.cells #[.int .i64 7015, .int .i64 b, .int .i64 (sumOf [7015, b]), .int .i64 r] 3)
   rwa [World.size_alloc] at this
 have hbl : Below w.heap.size w ((w2.alloc (.cells #[Value.int .i64 0, Value.int .i64 0, Value.int .i64 0, Value.int .i64 0, Value.int .i64 0, Value.int .i64 0, Value.int .i64 0, Value.int .i64 0, Value.int .i64 0, Value.int .i64 0, Value.int .i64 0, Value.int .i64 0, Value.int .i64 0, Value.int .i64 0, Value.int .i64 0, Value.int .i64 0] 3)).alloc (.cells #[.int .i64 7015, .int .i64 b, .int .i64 (sumOf [7015, b]), .int .i64 r] 3)) := ((((HB.out.alloc HB.out.size _).next hB2).alloc (by have := HB.out.size; omega) _).alloc (by have := HB.out.size; simp; omega) _)
 have hge : w.heap.size ≤ w2.heap.size := by have := HB.out.size; omega
 have HNEW := Lib.hid hnew
 have HSRC := Lib.hid hsrc
 have HBL := Lib.hid hbl
 have HGE := Lib.hid hge
 clear hB2 hrow hnew hsrc hbl hge hsz
 have hrd : ∀ (j : Nat) v, ([.int .i64 7015, .int .i64 b, .int .i64 (sumOf [7015, b]), .int .i64 r] : List Value)[j]? = some v → ((w2.alloc (.cells #[Value.int .i64 0, Value.int .i64 0, Value.int .i64 0, Value.int .i64 0, Value.int .i64 0, Value.int .i64 0, Value.int .i64 0, Value.int .i64 0, Value.int .i64 0, Value.int .i64 0, Value.int .i64 0, Value.int .i64 0, Value.int .i64 0, Value.int .i64 0, Value.int .i64 0, Value.int .i64 0] 3)).alloc (.cells #[.int .i64 7015, .int .i64 b, .int .i64 (sumOf [7015, b]), .int .i64 r] 3)).cell? ((⟨w2.heap.size + 1, 0, none⟩ : Addr).add j) = some v := fun j v hj => by
   rw [addr_add0]
   exact (cell_of_row _ _ _ _ _ _ HSRC.out).trans (by simpa using hj)
 have HRD := Lib.hid hrd
 clear hrd
 go_wp2_with (refine wpList_copy_splice rfl (.tmp 15) (.tmp 24) 22 22 rfl 3 Try.underlying22 (by kernel_rfl) _ _ _ _ _ _ rfl rfl w2.heap.size 0 [Value.int .i64 0, Value.int .i64 0, Value.int .i64 0, Value.int .i64 0, Value.int .i64 0, Value.int .i64 0, Value.int .i64 0, Value.int .i64 0, Value.int .i64 0, Value.int .i64 0, Value.int .i64 0, Value.int .i64 0, Value.int .i64 0, Value.int .i64 0, Value.int .i64 0, Value.int .i64 0] 3 HNEW.out [.int .i64 7015, .int .i64 b, .int .i64 (sumOf [7015, b]), .int .i64 r] rfl (fun _ => ⟨rfl, _, rfl, HRD.out⟩) (by simp) (by simp [Value.oneCell']) w.heap.size w HBL.out HGE.out ?_; intro w4 HG4 hB4)
 go_wp2
 go_ret2
 have hg := HG4.out
 refine ⟨_, rfl, ?_, hB4⟩
 exact ⟨by simp [superList], .inr ⟨w2.heap.size, 16, _, rfl, HGE.out, hg, Nat.le_refl _, by simp [maxLen], by simp [splice], by simp [splice, superList]⟩⟩
end Go.Proofs.Ytliaemoomhfcdaa
namespace Go.Proofs.Ytliaemoomhfcdaa
open Go.RowKit Go.Proofs.YtliaemoomhfcdaaW.PrintWords
set_option maxHeartbeats 4000000
set_option maxRecDepth 100000
set_option linter.unusedVariables false
set_option linter.unusedSimpArgs false

def recWordsAns (x : PRec) : List Int × Int := if recOk x = true then (recWords x.kind x.key x.val x.child, 0) else ([], 70)
def RecWordsPost (r : List Int × Int) (w : World) (e : Ending) (w' : World) : Prop :=
  ∃ v, e = .returned (.tuple #[v, .int .i64 r.2]) ∧ Kd.V (Kd.int .i64) 3 w' w.heap.size (fun k_ => w.heap.size ≤ k_) v r.1 ∧ Below w.heap.size w w'
theorem V_of_row {w : World} {g t : Nat} {l : List Int} {base e : Nat} (h : w.heap[g]? = some (.cells (ints l).toArray t (0, 0))) (hb : base ≤ g) (hl : l.length ≤ 1000000000) : Kd.V (Kd.int .i64) e w base (fun k_ => base ≤ k_) (.slice (some ⟨g, 0, none⟩) l.length l.length) l := by
 refine ⟨_, _, rfl, Nat.le_refl _, ?_⟩
 intro W' hW
 have h2 : W'.heap[g]? = some (.cells (ints l).toArray t (0, 0)) := (hW g hb (Array.getElem?_eq_some_iff.1 h).1).trans h
 have hr := reads_block h2 0 (ints l) rfl
 rw [List.length_map] at hr
 exact C_of_RI hr (by omega)
theorem recWords_any (x : PRec) (w : World) :
    Calls Try.prog 38 #[.agg #[.int .i64 x.kind, .string x.key, .string x.val, .int .i64 x.child]] w (RecWordsPost (recWordsAns x) w) := by
 obtain ⟨k, key, val, ch⟩ := x
 obtain ⟨r, hr⟩ : ∃ r, r = recWordsAns ⟨k, key, val, ch⟩ := ⟨_, rfl⟩
 rw [← hr]
 unfold recWordsAns at hr
 have hck : ∀ W, Calls Try.prog 75 #[.agg #[.int .i64 k, .string key, .string val, .int .i64 ch]] W fun e w' => e = .returned (.bool (recOk ⟨k, key, val, ch⟩)) ∧ Below W.heap.size W w' := fun W => recCheck_any k key val ch W
 have hu62 := Try.underlying62
 simp only
 cases hok : recOk ⟨k, key, val, ch⟩ with
 | false =>
  rw [hok] at hck
  rw [if_neg (by rw [hok]; simp)] at hr
  have HR := Lib.hid hr
  have HCK := Lib.hid hck
  clear hr hck hok
  go_enter Try.func38, Try.ntmps38
  go_wp2_with (first
    | (refine wpList_load_row rfl 62 _ rfl w.heap.size rfl 62 _ (0, 0) _ (heap_alloc_new _ _) hu62 rfl (by kernel_rfl) ?_)
    | (go_at_call 75; refine (HCK.out _).mono ?_; rintro e w1 ⟨rfl, hB1⟩))
  go_ret2
  rw [HR.out]
  exact ⟨_, rfl, ⟨none, 0, rfl, Nat.le_refl _, fun W' _ => Kd.C_nil _ W'⟩, ((Below.refl _ _).alloc (Nat.le_refl _) _).next hB1⟩
 | true =>
  rw [hok] at hck
  rw [if_pos hok] at hr
  have hsz := ok_sizes hok
  simp only at hsz
  have hof : ∀ W, Calls Try.prog 76 #[.agg #[.int .i64 k, .string key, .string val, .int .i64 ch]] W fun e w' => e = .returned (.agg (ints (recWords k key val ch)).toArray) ∧ Below W.heap.size W w' := fun W => of_any k key val ch hsz.1 hsz.2 W
  have hl16 : (recWords k key val ch).length = 16 := rfl
  generalize recWords k key val ch = ws at hof hr hl16
  obtain ⟨f0, f1, f2, f3, f4, f5, f6, f7, f8, f9, f10, f11, f12, f13, f14, f15, rfl⟩ : ∃ f0 f1 f2 f3 f4 f5 f6 f7 f8 f9 f10 f11 f12 f13 f14 f15, ws = [f0, f1, f2, f3, f4, f5, f6, f7, f8, f9, f10, f11, f12, f13, f14, f15] := by
    match ws, hl16 with
    | [g0, g1, g2, g3, g4, g5, g6, g7, g8, g9, g10, g11, g12, g13, g14, g15], _ => exact ⟨g0, g1, g2, g3, g4, g5, g6, g7, g8, g9, g10, g11, g12, g13, g14, g15, rfl⟩
  have hof2 : ∀ W, Calls Try.prog 76 #[.agg #[.int .i64 k, .string key, .string val, .int .i64 ch]] W fun e w' => e = .returned (.agg #[.int .i64 f0, .int .i64 f1, .int .i64 f2, .int .i64 f3, .int .i64 f4, .int .i64 f5, .int .i64 f6, .int .i64 f7, .int .i64 f8, .int .i64 f9, .int .i64 f10, .int .i64 f11, .int .i64 f12, .int .i64 f13, .int .i64 f14, .int .i64 f15]) ∧ Below W.heap.size W w' := hof
  have HR := Lib.hid hr
  have HCK := Lib.hid hck
  have HOF := Lib.hid hof2
  clear hr hck hok hof hof2 hsz hl16
  go_enter Try.func38, Try.ntmps38
  go_wp2_with (first
    | (refine wpList_load_row rfl 62 (.tmp 1) rfl w.heap.size rfl 62 #[.int .i64 k, .string key, .string val, .int .i64 ch] (0, 0) _ (by first | exact heap_alloc_new _ _ | exact HW.out) hu62 rfl (by kernel_rfl) ?_)
    | (go_at_call 75; refine (HCK.out _).mono ?_; rintro e w1 ⟨rfl, hB1⟩; have HW := Lib.hid ((hB1.block w.heap.size (by simp)).trans (heap_alloc_new w (.cells #[.int .i64 k, .string key, .string val, .int .i64 ch] 62))); have HB1 := Lib.hid (((Below.refl w.heap.size w).alloc (Nat.le_refl _) _).next hB1); clear hB1)
    | (go_at_call 76; refine (HOF.out _).mono ?_; rintro e w2 ⟨rfl, hB2⟩; have HB2 := Lib.hid (HB1.out.next hB2); clear hB2))
  go_ret2
  rw [HR.out]
  have hrow := heap_alloc_new w2 (.cells #[.int .i64 f0, .int .i64 f1, .int .i64 f2, .int .i64 f3, .int .i64 f4, .int .i64 f5, .int .i64 f6, .int .i64 f7, .int .i64 f8, .int .i64 f9, .int .i64 f10, .int .i64 f11, .int .i64 f12, .int .i64 f13, .int .i64 f14, .int .i64 f15] 98)
  exact ⟨_, rfl, V_of_row (l := [f0, f1, f2, f3, f4, f5, f6, f7, f8, f9, f10, f11, f12, f13, f14, f15]) hrow HB2.out.size (by simp), HB2.out.alloc HB2.out.size _⟩
/-- A new arena's words. -/
def newWords (b : Nat) : List Int := superList (b : Int) 1 ++ nodeWords 0 0 0 0 [] ++ List.replicate (16 * (b - 2)) 0
def newAns (b : Int) : List Int × Int := if 2 ≤ b ∧ b ≤ 256 then (newWords b.toNat, 0) else ([], 1)
def NewPost (r : List Int × Int) (w : World) (e : Ending) (w' : World) : Prop := ∃ v, e = .returned (.tuple #[v, .int .i64 r.2]) ∧ w'.ownsRow w.heap.size 3 1 v r.1.length (ints r.1) ∧ Below w.heap.size w w'
theorem made_list (n : Nat) : madeCells #[Value.int .i64 0] n = (List.replicate n (Value.int .i64 0)).toArray := by
 rw [← toList_madeCells_one, Array.toArray_toList]
theorem new_any (b : Int) (w : World) : Calls Try.prog 37 #[.int .i64 b] w (NewPost (newAns b) w) := by
 obtain ⟨r, hr⟩ : ∃ r, r = newAns b := ⟨_, rfl⟩
 rw [← hr]
 unfold newAns at hr
 by_cases h1 : 2 ≤ b
 rotate_left
 · rw [if_neg (fun hh => h1 hh.1)] at hr
   subst hr
   go_enter Try.func37, Try.ntmps37
   go_wp2
   go_ret2
   exact ⟨_, rfl, World.ownsRow_nil _ _ _ _, Below.refl _ _⟩
 by_cases h2 : b ≤ 256
 rotate_left
 · rw [if_neg (fun hh => h2 hh.2)] at hr
   subst hr
   go_enter Try.func37, Try.ntmps37
   go_wp2
   go_ret2
   exact ⟨_, rfl, World.ownsRow_nil _ _ _ _, Below.refl _ _⟩
 rw [if_pos ⟨h1, h2⟩] at hr
 obtain ⟨n, rfl⟩ := Int.eq_ofNat_of_zero_le (show 0 ≤ b by omega)
 have hmay : superMay (n : Int) 1 = true := by
   unfold superMay
   rw [decide_eq_true h1, decide_eq_true h2, decide_eq_true (show (1 : Int) < (n : Int) by omega)]
   rfl
 have HSW := Lib.hid (fun W => superWords_ok (n : Int) 1 W hmay)
 have HNW := Lib.hid (fun W => nodeWords_any 0 0 0 0 none 0 0 [] W (RI.nil W) (by omega) (by decide))
 have hmk : ∀ w, (Instr.makeSlice 22 (.int .i64 (16 * (n : Int))) (.int .i64 (16 * (n : Int)))).run Try.prog w = .ok (.slice (some ⟨w.heap.size, 0, none⟩) (16 * n) (16 * n)) (w.alloc (.cells (List.replicate (16 * n) (Value.int .i64 0)).toArray 3)) := fun w => by
   have := run_make_row' (P := Try.prog) 22 3 (.int .i64 0) 8 Try.underlying22 int_info rfl .i64 .i64 (16 * n) (by omega) (by omega) w
   rw [made_list] at this
   exact this
 have HR := Lib.hid hr
 clear hr hmay
 go_enter Try.func37, Try.ntmps37
 go_upto_region 6 with (first
   | (go_at_call 74; refine (HSW.out _).mono ?_; rintro e w1 ⟨v1, rfl, hO1, hB1⟩; obtain ⟨A1, c1, rfl, hc1, hri1⟩ := own_cap hO1; have HRI1 := Lib.hid hri1; have HB1 := Lib.hid hB1; clear hO1 hB1 hri1 hc1)
   | (go_at_call 46; refine (HNW.out _).mono ?_; rintro e w2 ⟨v2, rfl, hO2, hB2⟩; obtain ⟨A2, c2, rfl, hc2, hri2⟩ := own_cap hO2; have HRI2 := Lib.hid hri2; have HB2 := Lib.hid hB2; clear hO2 hB2 hri2 hc2))
 have hnew : (w2.alloc (.cells (List.replicate (16 * n) (Value.int .i64 0)).toArray 3)).heap[w2.heap.size]? = some (.cells (List.replicate (16 * n) (Value.int .i64 0)).toArray 3 (0, 0)) := heap_alloc_new _ _
 rw [List.toArray_replicate] at hnew
 have hge : w.heap.size ≤ w2.heap.size := by have := HB1.out.size; have := HB2.out.size; omega
 have hB3 : Below w.heap.size w (w2.alloc (.cells (Array.replicate (16 * n) (Value.int .i64 0)) 3)) := (HB1.out.next HB2.out).alloc hge _
 have hri1 := ((HRI1.out.below HB2.out).below ((Below.refl w2.heap.size w2).alloc (Nat.le_refl _) (.cells (Array.replicate (16 * n) (Value.int .i64 0)) 3)))
 have hri2 := (HRI2.out.below ((Below.refl w2.heap.size w2).alloc (Nat.le_refl _) (.cells (Array.replicate (16 * n) (Value.int .i64 0)) 3)))
 generalize (w2.alloc (.cells (Array.replicate (16 * n) (Value.int .i64 0)) 3)) = W3 at hnew hB3 hri1 hri2 ⊢
 have hl1 : (superList (n : Int) 1).length = 16 := rfl
 have hl2 : (nodeWords 0 0 0 0 []).length = 16 := rfl
 obtain ⟨g, hg⟩ : ∃ g, g = w2.heap.size := ⟨_, rfl⟩
 have hA2 : ∀ ad, A2 = some ad → ad.block < g := by
   intro ad he
   subst he
   obtain ⟨ad2, e2, hb2, _⟩ := HRI2.out.2 (by rw [hl2]; omega)
   injection e2 with e2
   subst e2
   omega
 rw [← hg] at hnew hge ⊢
 have hnew2 : W3.heap[g]? = some (.cells (List.replicate (16 * n) (Value.int .i64 0)).toArray 3 (0, 0)) := by rw [List.toArray_replicate]; exact hnew
 have HNEW := Lib.hid hnew2
 have HB3 := Lib.hid hB3
 have HGE := Lib.hid hge
 have HA2 := Lib.hid hA2
 have HRA := Lib.hid hri1
 have HRB := Lib.hid hri2
 clear hnew hnew2 hB3 hge hA2 hri1 hri2 hg HRI1 HRI2
 have hrr : r = (superList (n : Int) 1 ++ nodeWords 0 0 0 0 [] ++ List.replicate (16 * (n - 2)) 0, 0) := HR.out
 have HR2 := Lib.hid hrr
 clear hrr HR
 generalize superList (n : Int) 1 = S1 at hl1 HRA HR2 ⊢
 generalize nodeWords 0 0 0 0 [] = N1 at hl2 HRB HR2 ⊢
 have hsrc1 : ∃ ad, A1 = some ad ∧ ∀ j v, (ints S1)[j]? = some v → W3.cell? (ad.add j) = some v := by
   obtain ⟨ad, e, _, hcc⟩ := HRA.out.2 (by omega)
   exact ⟨ad, e, fun j v hj => by have := hcc j v hj; exact this⟩
 have HS1 := Lib.hid hsrc1
 have HL1 := Lib.hid hl1
 have HL2 := Lib.hid hl2
 clear hsrc1 hl1 hl2
 have hn2 : 2 ≤ n := by omega
 rw [HL1.out, HL2.out]
 go_upto_region 7 with (refine wpList_copy_splice rfl (.tmp 28) (.tmp 29) 22 22 rfl 3 Try.underlying22 (by kernel_rfl) _ _ _ _ _ _ rfl rfl g 0 (List.replicate (16 * n) (Value.int .i64 0)) 3 HNEW.out (ints S1) (by have h1 := HL1.out; rw [List.length_map, h1]; exact (Nat.min_eq_left (by omega)).symm) (fun h0 => ⟨rfl, HS1.out⟩) (by have h1 := HL1.out; simp; omega) (ints_one S1) g W3 (Below.refl _ _) (Nat.le_refl _) ?_; intro w4 HG4 hB4; have HK4 := Lib.hid hB4; have HB4 := Lib.hid (HB3.out.trans (hB4.mono HGE.out)); clear hB4)
 have hsrc2 : ∃ ad, A2 = some ad ∧ ∀ j v, (ints N1)[j]? = some v → w4.cell? (ad.add j) = some v := by
   obtain ⟨ad, e, _, hcc⟩ := HRB.out.2 (by have := HL2.out; omega)
   refine ⟨ad, e, fun j v hj => ?_⟩
   have h1 := hcc j v hj
   exact (HK4.out.cell (by rw [block_of_add]; exact HA2.out ad e)).trans h1
 have HS2 := Lib.hid hsrc2
 have hlen4 : (splice (List.replicate (16 * n) (Value.int .i64 0)) 0 (ints S1)).length = 16 * n := by rw [length_splice _ _ _ (by have h1 := HL1.out; simp; omega), List.length_replicate]
 have HLEN4 := Lib.hid hlen4
 clear hsrc2 hlen4
 go_wp2_with (refine wpList_copy_splice rfl (.tmp 32) (.tmp 33) 22 22 rfl 3 Try.underlying22 (by kernel_rfl) _ _ _ _ _ _ rfl rfl g 16 _ 3 HG4.out (ints N1) (by have h1 := HL2.out; rw [List.length_map, h1]; exact (Nat.min_eq_left (by omega)).symm) (fun h0 => ⟨by first | rfl | simp, HS2.out⟩) (by have h1 := HL2.out; rw [HLEN4.out, List.length_map, h1]; omega) (ints_one N1) w.heap.size w HB4.out HGE.out ?_; intro w5 HG5 hB5; have HB5 := Lib.hid hB5; clear hB5)
 go_ret2
 rw [HR2.out]
 have h1 := HL1.out
 have h2 := HL2.out
 have hl : (S1 ++ N1 ++ List.replicate (16 * (n - 2)) 0).length = 16 * n := by simp [h1, h2]; omega
 have he : splice (splice (List.replicate (16 * n) (Value.int .i64 0)) 0 (ints S1)) 16 (ints N1) = ints (S1 ++ N1 ++ List.replicate (16 * (n - 2)) 0) := by
   have a1 : (ints S1).length = 16 := by rw [List.length_map, h1]
   have a2 : (ints N1).length = 16 := by rw [List.length_map, h2]
   have a3 : splice (List.replicate (16 * n) (Value.int .i64 0)) 0 (ints S1) = ints S1 ++ List.replicate (16 * n - 16) (Value.int .i64 0) := by
     unfold splice
     rw [List.take_zero, List.nil_append, a1, List.drop_replicate]
   rw [a3]
   unfold splice
   rw [a2, List.take_append_of_le_length (by omega), List.take_of_length_le (by omega), List.drop_append, List.drop_of_length_le (by omega), List.nil_append, a1, List.drop_replicate, show 16 * n - 16 - (16 + 16 - 16) = 16 * (n - 2) by omega]
   simp
 have hg := HG5.out
 rw [he] at hg
 refine ⟨_, rfl, ?_, HB5.out⟩
 simp only
 rw [hl]
 have hll : (ints (S1 ++ N1 ++ List.replicate (16 * (n - 2)) 0)).length = 16 * n := by rw [List.length_map]; exact hl
 exact ⟨by rw [hll]; omega, .inr ⟨g, 16 * n, _, rfl, HGE.out, hg, Nat.le_refl _, by simp only [maxLen]; omega, by rw [List.size_toArray, hll]; omega, List.take_of_length_le (by rw [hll]; omega)⟩⟩
end Go.Proofs.Ytliaemoomhfcdaa
