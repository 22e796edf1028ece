/- Several texts of this seat, joined: Own, Crc, Ints, Sum, KeyW, TextW, Str, Scopes, Kinds, OpenI. -/
import Derived.Below
import Derived.Laws.OwnMore
import Derived.Deep.AppendLies
import Derived.Deep.Draws
import Derived.Laws.Rows
import Derived.Maps.AppendAt
import Derived.RegionTactic
import Derived.OwnWalk
import Derived.Test.YtliaemoomhfcdaaProg
import Derived.Test.YtliaemoomhfcdaaMW
import Derived.WalkKit
import Derived.Carry
import Derived.KernelRfl
import Derived.IntWalk
import Derived.WalkLawsBesides
import Derived.WalkSpells
import Derived.Deep.WholeRow
import Derived.Deep.RegionHeld3
import Derived.Lib.Hide
import Derived.Lib.SliceRun
import Derived.Scope
import Derived.FnLit
import Derived.RangeFuncNested
import Derived.RangeFuncBound
import Derived.RangeFuncCalls
import Derived.RangeFuncLeaves
import Derived.Shelf.Abstract
import Derived.Shelf.RegionOpen
import Derived.OwnWalkIn
import Derived.TacticsInMore
import Derived.LoopNIn
import Derived.LoopIn
import Derived.Laws.MakeOwn
import Derived.Laws.BytesArg
import Derived.Deep.DeepCutAuto
import Derived.ScopeJumps
import Derived.Deep.Slices
import Derived.Deep.Fields
import Derived.ChangeSame
import Derived.ChangeArms
import Derived.WideShapes
namespace Go.Proofs.Ytliaemoomhfcdaa
open Go.RowKit
theorem block_of_add (a : Addr) (n : Nat) : (a.add n).block = a.block := by unfold Addr.add; split <;> rfl
theorem add_of_add (a : Addr) (i j : Nat) : (a.add i).add j = a.add (i + j) := by
 unfold Addr.add
 by_cases hi : i = 0 <;> by_cases hj : j = 0 <;> simp [hi, hj, Nat.add_assoc]

def Reads (w : World) (B size : Nat) (A : Option Addr) (n : Nat) (xs : List Value) : Prop :=
  xs.length = n * size ∧ (0 < n → ∃ ad, A = some ad ∧ ad.block < B ∧ ∀ j u, xs[j]? = some u → w.cell? (ad.add j) = some u)

section
variable {w w' : World} {B B' size n : Nat} {A : Option Addr} {xs : List Value}
theorem Reads.none_ : Reads w B size A 0 [] := ⟨by simp, fun h => absurd h (by omega)⟩
theorem Reads.at_ {k : Nat} (h : Reads w B 1 A n xs) (hk : k < n) : ∃ ad u, A = some ad ∧ ad.block < B ∧ xs[k]? = some u ∧ w.cell? (ad.add k) = some u := by
 obtain ⟨ad, e, hb, hc⟩ := h.2 (by omega)
 have hl : k < xs.length := by have := h.1; omega
 exact ⟨ad, xs[k], e, hb, List.getElem?_eq_getElem hl, hc k _ (List.getElem?_eq_getElem hl)⟩
theorem Reads.keep (h : Reads w B size A n xs) (hk : ∀ p : Addr, p.block < B → w'.cell? p = w.cell? p) : Reads w' B size A n xs :=
  ⟨h.1, fun hn => by
    obtain ⟨ad, e, hb, hc⟩ := h.2 hn
    exact ⟨ad, e, hb, fun j u hu => (hk _ (by rw [block_of_add]; exact hb)).trans (hc j u hu)⟩⟩
theorem Reads.more (h : Reads w B size A n xs) (hB : B ≤ B') : Reads w B' size A n xs :=
  ⟨h.1, fun hn => by
    obtain ⟨ad, e, hb, hc⟩ := h.2 hn
    exact ⟨ad, e, by omega, hc⟩⟩
theorem Reads.below (h : Reads w B size A n xs) (hb : Below B w w') : Reads w' B size A n xs := h.keep fun _ hp => hb.cell hp
theorem Reads.drew (h : Reads w B size A n xs) : Reads w.drew B size A n xs := h
theorem Reads.drewN (h : Reads w B size A n xs) (k : Nat) : Reads (w.drewN k) B size A n xs := h
theorem Reads.alloc (h : Reads w B size A n xs) (hB : B ≤ w.heap.size) (o : Obj) : Reads (w.alloc o) B size A n xs := h.keep fun p hp => World.cell?_alloc_lt w o p (by omega)
theorem Reads.setCell (h : Reads w B size A n xs) {p : Addr} (hB : B ≤ p.block) (u : Value) : Reads (w.setCell p u) B size A n xs :=
  h.keep fun q hq => World.cell?_setCell_other w p q u (fun e => by subst e; omega)
theorem Reads.grown (h : Reads w B size A n xs) {row : Option Nat} (hg : w.grownBy w' row) (hB : B ≤ w.heap.size) (hr : ∀ g, row = some g → B ≤ g) : Reads w' B size A n xs :=
  h.keep fun p hp => World.cell?_of_block (hg.block p.block (by omega) (fun e => by have := hr _ e.symm; omega))
theorem Reads.cut (h : Reads w B size A n xs) {k cap : Nat} (hk : k ≤ n) (hc : n ≤ cap) :
    Reads w B size (if cap = k then A else A.map (·.add (k * size))) (n - k) (xs.drop (k * size)) := by
 refine ⟨by rw [List.length_drop, h.1, Nat.sub_mul], fun hn => ?_⟩
 obtain ⟨ad, rfl, hb, hcell⟩ := h.2 (by omega)
 rw [if_neg (by omega)]
 refine ⟨ad.add (k * size), rfl, by rw [block_of_add]; exact hb, fun j u hu => ?_⟩
 rw [add_of_add]
 exact hcell _ u (by rw [← hu, List.getElem?_drop])
theorem Reads.of_own {base : Nat} {e : TypeId} {c : Nat} (h : w.ownsRow base e size (.slice A n c) n xs) : Reads w w.heap.size size A n xs := by
 refine ⟨h.1, fun hn => ?_⟩
 obtain ⟨g, cap, hv, _, hlt⟩ := h.form hn
 have hA : A = some ⟨g, 0, none⟩ := by injection hv
 subst hA
 exact ⟨_, rfl, hlt, h.cells (g := g) rfl⟩
end

def Blk (w : World) (g : Nat) (t : TypeId) (cs : Array Value) : Prop := w.heap[g]? = some (.cells cs t (0, 0))

section
variable {w w' : World} {g : Nat} {t : TypeId} {cs : Array Value}
theorem Blk.lt (h : Blk w g t cs) : g < w.heap.size := by
 rcases Nat.lt_or_ge g w.heap.size with hlt | hge
 · exact hlt
 unfold Blk at h; rw [Array.getElem?_eq_none hge] at h; cases h
theorem Blk.cell (h : Blk w g t cs) (i : Nat) : w.cell? ⟨g, i, none⟩ = cs[i]? := cell_of_row w g i cs t (0, 0) h
theorem Blk.frozen (h : Blk w g t cs) (i : Nat) : w.frozen? ⟨g, i, none⟩ = false := by
 unfold Blk at h
 simp [World.frozen?, h]
theorem Blk.new (w : World) (t : TypeId) (cs : Array Value) : Blk (w.alloc (.cells cs t)) w.heap.size t cs := heap_alloc_new w _
theorem Blk.drew (h : Blk w g t cs) : Blk w.drew g t cs := h
theorem Blk.drewN (h : Blk w g t cs) (n : Nat) : Blk (w.drewN n) g t cs := h
theorem Blk.alloc (h : Blk w g t cs) (o : Obj) : Blk (w.alloc o) g t cs := (Below.heap_alloc w o g h.lt).trans h
theorem Blk.set_ (h : Blk w g t cs) (i : Nat) (u : Value) : Blk (w.setCell ⟨g, i, none⟩ u) g t (cs.setIfInBounds i u) := by
 unfold Blk at h ⊢
 simp [World.setCell, Array.getElem?_modify, h]
theorem Blk.far (h : Blk w g t cs) {p : Addr} (hp : g ≠ p.block) (u : Value) : Blk (w.setCell p u) g t cs := (Below.heap_setCell w p u g hp).trans h
theorem Blk.below {B : Nat} (h : Blk w g t cs) (hb : Below B w w') (hg : g < B) : Blk w' g t cs := (hb.block g hg).trans h
theorem Blk.grown {row : Option Nat} (h : Blk w g t cs) (hb : w.grownBy w' row) (hg : some g ≠ row) : Blk w' g t cs := (hb.block g h.lt hg).trans h
theorem Blk.ne_ {g' : Nat} {t' : TypeId} {cs' : Array Value} (h : Blk w g t cs) (h' : Blk w g' t' cs') (hne : t ≠ t') : g ≠ g' := by
 rintro rfl
 unfold Blk at h h'
 rw [h] at h'
 injection h' with h'
 injection h' with _ ht
 exact hne ht
theorem own_blk_ne {base : Nat} {e : TypeId} {size n : Nat} {v : Value} {xs : List Value} (h : w.ownsRow base e size v n xs) (hg : Blk w g t cs) (hne : e ≠ t) : v.ownBlock ≠ some g := by
 rcases h.2 with ⟨rfl, _⟩ | ⟨g', cap, cur, rfl, _, hh, _⟩
 · simp [Value.ownBlock]
 intro he
 have : g' = g := by simpa [Value.ownBlock] using he
 subst this
 exact Blk.ne_ (t := e) hh hg hne rfl
end

section
variable {P : Program} (w : World)

theorem run_append_of_nil (base : Nat) (t ty e : TypeId) (i : TypeInfo) (size : Nat) (ht : P.underlying t = some (.slice e)) (hi : P.info? e = some i)
    (v : Value) (n : Nat) (xs : List Value) (hown : w.ownsRow base e size v n xs) (c : Nat) : (Builtin.append_ #[t, t] ty #[v, .slice none 0 c]).run P w = .ok v w := by
 rcases hown.2 with ⟨rfl, rfl⟩ | ⟨g, cap, cur, rfl, _, _, hnc, _⟩
 · simp [Builtin.append_, run_underlying ht, sizeOf, typeInfo, hi, Builtin.lenOf, Builtin.firstCells]
 simp [Builtin.append_, run_underlying ht, sizeOf, typeInfo, hi, Builtin.lenOf, Builtin.firstCells, hnc, storeCells]

theorem run_append_any (base : Nat) (t ty e : TypeId) (i : TypeInfo) (z : Value) (size bytes : Nat) (ht : P.underlying t = some (.slice e)) (hi : P.info? e = some i) (hz : i.zero = some z)
    (hsize : i.size = size) (hby : i.bytes = bytes) (hzs : z.cells.size = size) (hsz : 0 < size)
    (v : Value) (n : Nat) (xs : List Value) (hown : w.ownsRow base e size v n xs)
    (B : Nat) (A : Option Addr) (m c : Nat) (news : List Value) (hr : Reads w B size A m news) (h1 : ∀ u ∈ news, u.oneCell' = true)
    (h63 : n + m ≤ maxLen) (hbytes : (n + m) * bytes ≤ 140737488355328) (hbase : base ≤ w.heap.size) :
    ∃ v' w', (Builtin.append_ #[t, t] ty #[v, .slice A m c]).run P w = .ok v' w' ∧ w'.ownsRow base e size v' (n + m) (xs ++ news) ∧ w.grownBy w' v.ownBlock ∧
      (v'.ownBlock = v.ownBlock ∨ v'.ownBlock = some w.heap.size) := by
 rcases A with _ | ad
 · have hm : m = 0 := by
     rcases Nat.eq_zero_or_pos m with h0 | h0
     · exact h0
     · obtain ⟨ad, h, _⟩ := hr.2 h0
       cases h
   subst hm
   have hn : news = [] := List.eq_nil_of_length_eq_zero (by simpa using hr.1)
   subst hn
   exact ⟨v, w, run_append_of_nil w base t ty e i size ht hi v n xs hown c, by simpa using hown, World.grownBy.refl w _, .inl rfl⟩
 have hcells : ∀ j u, news[j]? = some u → w.cell? (ad.add j) = some u := by
   intro j u hu
   rcases Nat.eq_zero_or_pos m with h0 | h0
   · subst h0
     have hn : news = [] := List.eq_nil_of_length_eq_zero (by simpa using hr.1)
     subst hn
     simp at hu
   · obtain ⟨ad', h, _, hc⟩ := hr.2 h0
     injection h with h
     subst h
     exact hc j u hu
 obtain ⟨v', w', hrun, h2, h3, _, h5⟩ := run_append_own_at (P := P) w base t ty e i z size bytes ht hi hz hsize hby hzs hsz v n xs hown ad m c news hr.1 hcells h1 h63 hbytes hbase
 exact ⟨v', w', hrun, h2, h3, h5⟩

theorem wp_append_any {o : Oper} {a : Act} {K : Act → World → Prop} {Q : Exit → Act → World → Prop} (s x : Operand) (t : TypeId)
    (ho : o.op = .call { callee := .builtin .append, args := #[s, x], argTypes := #[t, t] })
    (base : Nat) (e : TypeId) (i : TypeInfo) (z : Value) (size bytes : Nat) (ht : P.underlying t = some (.slice e)) (hi : P.info? e = some i) (hz : i.zero = some z)
    (hsize : i.size = size) (hby : i.bytes = bytes) (hzs : z.cells.size = size) (hsz : 0 < size)
    (v : Value) (n : Nat) (xs : List Value) (hs : a.eval s = v) (hown : w.ownsRow base e size v n xs)
    (B : Nat) (A : Option Addr) (m c : Nat) (news : List Value) (hx : a.eval x = .slice A m c) (hr : Reads w B size A m news) (h1 : ∀ u ∈ news, u.oneCell' = true)
    (h63 : n + m ≤ maxLen) (hbytes : (n + m) * bytes ≤ 140737488355328) (hbase : base ≤ w.heap.size)
    (h : ∀ v' w', w'.ownsRow base e size v' (n + m) (xs ++ news) → w.grownBy w' v.ownBlock → (v'.ownBlock = v.ownBlock ∨ v'.ownBlock = some w.heap.size) → K (a.put o.dst v') w') : o.wp P a w K Q := by
 obtain ⟨v', w', hrun, h2, h3, h4⟩ := run_append_any (P := P) w base t o.type e i z size bytes ht hi hz hsize hby hzs hsz v n xs hown B A m c news hr h1 h63 hbytes hbase
 unfold Oper.wp execOp
 simp only [ho, resolve, invoke, builtin, Sem.run_bind, Sem.run_pure, Result.andThen_ok, List.map_toArray, List.map_cons, List.map_nil, hs, hx, hrun]
 exact h v' w' h2 h3 h4

theorem wpList_append_any {ops : Array Oper} {rest : List Oper} {o : Oper} {a : Act} {Q : Exit → Act → World → Prop} (hgd : o.guard = none) (s x : Operand) (t : TypeId)
    (ho : o.op = .call { callee := .builtin .append, args := #[s, x], argTypes := #[t, t] })
    (base : Nat) (e : TypeId) (i : TypeInfo) (z : Value) (size bytes : Nat) (ht : P.underlying t = some (.slice e)) (hi : P.info? e = some i) (hz : i.zero = some z)
    (hsize : i.size = size) (hby : i.bytes = bytes) (hzs : z.cells.size = size) (hsz : 0 < size)
    (v : Value) (n : Nat) (xs : List Value) (hs : a.eval s = v) (hown : w.ownsRow base e size v n xs)
    (B : Nat) (A : Option Addr) (m c : Nat) (news : List Value) (hx : a.eval x = .slice A m c) (hr : Reads w B size A m news) (h1 : ∀ u ∈ news, u.oneCell' = true)
    (h63 : n + m ≤ maxLen) (hbytes : (n + m) * bytes ≤ 140737488355328) (hbase : base ≤ w.heap.size)
    (h : ∀ v' w', w'.ownsRow base e size v' (n + m) (xs ++ news) → w.grownBy w' v.ownBlock → (v'.ownBlock = v.ownBlock ∨ v'.ownBlock = some w.heap.size) → wpList P ops Q rest (a.put o.dst v') w') : wpList P ops Q (o :: rest) a w :=
  wpList_plain hgd fun _ hK => wp_append_any w s x t ho base e i z size bytes ht hi hz hsize hby hzs hsz v n xs hs hown B A m c news hx hr h1 h63 hbytes hbase fun v' w' h2 h3 h4 => hK _ _ (h v' w' h2 h3 h4)

theorem step_append_any {ops : Array Oper} {o : Oper} {a : Act} {K : Act → World → Prop} {Q : Exit → Act → World → Prop} {E : Prop} (hgd : o.guard = none) (s x : Operand) (t : TypeId)
    (ho : o.op = .call { callee := .builtin .append, args := #[s, x], argTypes := #[t, t] })
    (base : Nat) (e : TypeId) (i : TypeInfo) (z : Value) (size bytes : Nat) (ht : P.underlying t = some (.slice e)) (hi : P.info? e = some i) (hz : i.zero = some z)
    (hsize : i.size = size) (hby : i.bytes = bytes) (hzs : z.cells.size = size) (hsz : 0 < size)
    (v : Value) (n : Nat) (xs : List Value) (hs : a.eval s = v) (hown : w.ownsRow base e size v n xs)
    (B : Nat) (A : Option Addr) (m c : Nat) (news : List Value) (hx : a.eval x = .slice A m c) (hr : Reads w B size A m news) (h1 : ∀ u ∈ news, u.oneCell' = true)
    (h63 : n + m ≤ maxLen) (hbytes : (n + m) * bytes ≤ 140737488355328) (hbase : base ≤ w.heap.size)
    (h : ∀ v' w', w'.ownsRow base e size v' (n + m) (xs ++ news) → w.grownBy w' v.ownBlock → (v'.ownBlock = v.ownBlock ∨ v'.ownBlock = some w.heap.size) → K (a.put o.dst v') w') :
    if Region.wanted o (yielded ops a.tmps) = true then Oper.wp P o a w K Q else E := by
 have hw : Region.wanted o (yielded ops a.tmps) = true := by simp [Region.wanted, hgd]
 rw [if_pos hw]
 exact wp_append_any w s x t ho base e i z size bytes ht hi hz hsize hby hzs hsz v n xs hs hown B A m c news hx hr h1 h63 hbytes hbase h
end

end Go.Proofs.Ytliaemoomhfcdaa
namespace Go.Proofs.Ytliaemoomhfcdaa.Crc

def poly : BitVec 32 := 3988292384#32
def step (c : BitVec 32) : BitVec 32 := (c >>> 1) ^^^ (poly &&& -(c &&& 1#32))

theorem step_eq (c : BitVec 32) : step c = (c >>> 1) ^^^ (if c.getLsbD 0 then poly else 0#32) := by
 unfold step
 have h : c &&& 1#32 = if c.getLsbD 0 then 1#32 else 0#32 := by
   apply BitVec.eq_of_getLsbD_eq
   intro i hi
   have h1 : (1#32).getLsbD i = decide (i = 0) := by
     have : ∀ j : Fin 32, (1#32).getLsbD j = decide (j.val = 0) := by decide
     exact this ⟨i, hi⟩
   rw [BitVec.getLsbD_and, h1]
   cases hc : c.getLsbD 0
   · by_cases h0 : i = 0
     · subst h0; rw [hc]; rfl
     · simp [h0]
   · by_cases h0 : i = 0
     · subst h0; rw [hc]; rfl
     · simp [h0]
 rw [h]
 cases c.getLsbD 0
 · simp
 simp only [if_true]
 rw [show -(1#32) = BitVec.allOnes 32 from rfl, BitVec.and_allOnes]

theorem step_xor (a b : BitVec 32) : step (a ^^^ b) = step a ^^^ step b := by
 rw [step_eq, step_eq, step_eq, BitVec.ushiftRight_xor_distrib]
 rw [show (a ^^^ b).getLsbD 0 = (a.getLsbD 0 ^^ b.getLsbD 0) from BitVec.getLsbD_xor]
 apply BitVec.eq_of_getLsbD_eq
 intro i hi
 cases a.getLsbD 0 <;> cases b.getLsbD 0 <;> simp only [BitVec.getLsbD_xor, Bool.xor_true, Bool.xor_false, Bool.not_true, Bool.not_false, if_true, if_false, Bool.false_eq_true, BitVec.getLsbD_zero] <;> generalize (a >>> 1).getLsbD i = x <;> generalize (b >>> 1).getLsbD i = y <;> generalize poly.getLsbD i = z <;> cases x <;> cases y <;> cases z <;> rfl

theorem step_zero : step 0#32 = 0#32 := by decide

theorem step_eq_zero (d : BitVec 32) (h : step d = 0#32) : d = 0#32 := by
 rw [step_eq] at h
 cases hd : d.getLsbD 0
 · rw [hd] at h
   simp only [Bool.false_eq_true, if_false, BitVec.xor_zero] at h
   apply BitVec.eq_of_getLsbD_eq
   intro i hi
   by_cases h0 : i = 0
   · subst h0; rw [hd]; simp
   have := congrArg (fun v => v.getLsbD (i - 1)) h
   simp only [BitVec.getLsbD_ushiftRight, BitVec.getLsbD_zero] at this
   rw [show 1 + (i - 1) = i from by omega] at this
   rw [this]; simp
 rw [hd] at h
 have := congrArg (fun v => v.getLsbD 31) h
 simp [poly] at this

theorem xor_eq_zero {n : Nat} {a b : BitVec n} (h : a ^^^ b = 0#n) : a = b := by
 have : a ^^^ b ^^^ b = 0#n ^^^ b := by rw [h]
 simpa [BitVec.xor_assoc] using this

theorem step_inj {a b : BitVec 32} (h : step a = step b) : a = b := by
 apply xor_eq_zero
 apply step_eq_zero
 rw [step_xor, h, BitVec.xor_self]

def steps : Nat → BitVec 32 → BitVec 32
  | 0, c => c
  | n + 1, c => steps n (step c)

theorem steps_succ (n : Nat) (c : BitVec 32) : steps (n + 1) c = step (steps n c) := by
 induction n generalizing c with
 | zero => rfl
 | succ n ih => rw [steps, ih (step c)]; rfl

theorem steps_add (m n : Nat) (c : BitVec 32) : steps (m + n) c = steps n (steps m c) := by
 induction m generalizing c with
 | zero => simp [steps]
 | succ m ih => rw [Nat.succ_add, steps, ih]; rfl

theorem steps_xor (n : Nat) (a b : BitVec 32) : steps n (a ^^^ b) = steps n a ^^^ steps n b := by
 induction n generalizing a b with
 | zero => rfl
 | succ n ih => rw [steps, steps, steps, step_xor, ih]

theorem steps_zero (n : Nat) : steps n 0#32 = 0#32 := by
 induction n with
 | zero => rfl
 | succ n ih => rw [steps, step_zero, ih]

theorem steps_inj {n : Nat} {a b : BitVec 32} (h : steps n a = steps n b) : a = b := by
 induction n generalizing a b with
 | zero => exact h
 | succ n ih => exact step_inj (ih h)

/-- Steps over what stands high. -/
theorem step_shift (y : BitVec 32) (k : Nat) (hk : k < 31) (hy : y.toNat < 2 ^ (31 - k)) : step (y <<< (k + 1)) = y <<< k := by
 rw [step_eq]
 have h0 : (y <<< (k + 1)).getLsbD 0 = false := by simp
 rw [h0]
 simp only [Bool.false_eq_true, if_false, BitVec.xor_zero]
 apply BitVec.eq_of_getLsbD_eq
 intro i hi
 rw [BitVec.getLsbD_ushiftRight, BitVec.getLsbD_shiftLeft, BitVec.getLsbD_shiftLeft]
 by_cases h : i < k
 · simp [h, show 1 + i < k + 1 from by omega]
 simp only [h, show ¬ 1 + i < k + 1 from by omega, decide_false, Bool.not_false, Bool.and_true, hi, decide_true, Bool.true_and]
 rw [show 1 + i - (k + 1) = i - k from by omega]
 by_cases h2 : 1 + i < 32
 · simp [h2]
 have : y.getLsbD (i - k) = false := by
   rw [BitVec.getLsbD]
   apply Nat.testBit_lt_two_pow
   exact Nat.lt_of_lt_of_le hy (Nat.pow_le_pow_right (by decide) (by omega))
 simp [h2, this]

theorem steps_shift (n : Nat) (y : BitVec 32) (hn : n < 32) (hy : y.toNat < 2 ^ (32 - n)) : steps n (y <<< n) = y := by
 induction n with
 | zero => simp [steps]
 | succ n ih =>
  rw [steps, step_shift y n (by omega) (Nat.lt_of_lt_of_le hy (Nat.pow_le_pow_right (by decide) (by omega)))]
  exact ih (by omega) (Nat.lt_of_lt_of_le hy (Nat.pow_le_pow_right (by decide) (by omega)))

/-- The table's entry of a byte. -/
def tab (i : Nat) : BitVec 32 := steps 8 (BitVec.ofNat 32 i)

/-- A check with a byte more. -/
def byte (c b : BitVec 32) : BitVec 32 := steps 8 (c ^^^ b)

theorem low_high (x : BitVec 32) : x = ((x >>> 8) <<< 8) ^^^ (x &&& 255#32) := by
 apply BitVec.eq_of_getLsbD_eq
 intro i hi
 rw [BitVec.getLsbD_xor, BitVec.getLsbD_shiftLeft, BitVec.getLsbD_ushiftRight, BitVec.getLsbD_and]
 have h255 : (255#32).getLsbD i = decide (i < 8) := by
   have : ∀ j : Fin 32, (255#32).getLsbD j = decide (j.val < 8) := by decide
   exact this ⟨i, hi⟩
 rw [h255]
 by_cases h : i < 8
 · simp [h]
 simp [h, hi, show 8 + (i - 8) = i from by omega]

theorem byte_tab (c b : BitVec 32) (hb : b.toNat < 256) : (c >>> 8) ^^^ tab (((c ^^^ b) &&& 255#32).toNat) = byte c b := by
 unfold byte tab
 rw [show BitVec.ofNat 32 ((c ^^^ b) &&& 255#32).toNat = (c ^^^ b) &&& 255#32 from by simp]
 have e : steps 8 (c ^^^ b) = steps 8 ((((c ^^^ b) >>> 8) <<< 8) ^^^ ((c ^^^ b) &&& 255#32)) := by rw [← low_high]
 rw [e, steps_xor]
 have hb8 : b >>> 8 = 0#32 := by
   apply BitVec.eq_of_toNat_eq
   rw [BitVec.toNat_ushiftRight, Nat.shiftRight_eq_div_pow]
   simp; omega
 have : steps 8 (((c ^^^ b) >>> 8) <<< 8) = (c ^^^ b) >>> 8 := by
   apply steps_shift 8 _ (by decide)
   rw [BitVec.toNat_ushiftRight, Nat.shiftRight_eq_div_pow]
   have := (c ^^^ b).isLt
   omega
 rw [this, BitVec.ushiftRight_xor_distrib, hb8, BitVec.xor_zero]

theorem byte_xor (c d a b : BitVec 32) : byte (c ^^^ d) (a ^^^ b) = byte c a ^^^ byte d b := by
 unfold byte
 rw [← steps_xor]
 congr 1
 apply BitVec.eq_of_getLsbD_eq
 intro i _
 simp only [BitVec.getLsbD_xor]
 generalize c.getLsbD i = x; generalize d.getLsbD i = y; generalize a.getLsbD i = z; generalize b.getLsbD i = u
 cases x <;> cases y <;> cases z <;> cases u <;> rfl

theorem xor_cancel_left {n : Nat} {a b c : BitVec n} (h : a ^^^ b = a ^^^ c) : b = c := by
 have : a ^^^ (a ^^^ b) = a ^^^ (a ^^^ c) := by rw [h]
 simpa [← BitVec.xor_assoc] using this
theorem xor_cancel_right {n : Nat} {a b c : BitVec n} (h : b ^^^ a = c ^^^ a) : b = c := by
 rw [BitVec.xor_comm b, BitVec.xor_comm c] at h
 exact xor_cancel_left h

theorem byte_inj {c d b : BitVec 32} (h : byte c b = byte d b) : c = d := xor_cancel_right (steps_inj h)
theorem byte_inj' {c a b : BitVec 32} (h : byte c a = byte c b) : a = b := xor_cancel_left (steps_inj h)

/-- The byte of a word that is so many bits high. -/
def piece (w : BitVec 64) (s : Nat) : BitVec 32 := (BitVec.ofNat 32 ((w.toNat / 2 ^ s) % 256))

/-- A check with a word's bytes more, from so many on down. -/
def bytes (c : BitVec 32) (w : BitVec 64) : Nat → BitVec 32
  | 0 => c
  | n + 1 => bytes (byte c (piece w (8 * n))) w n

def word (c : BitVec 32) (w : BitVec 64) : BitVec 32 := bytes c w 8

theorem piece_xor (w v : BitVec 64) (s : Nat) : piece (w ^^^ v) s = piece w s ^^^ piece v s := by
 apply BitVec.eq_of_getLsbD_eq
 intro i hi
 have : ∀ u : BitVec 64, (piece u s).getLsbD i = (decide (i < 8) && u.getLsbD (s + i)) := by
   intro u
   unfold piece
   rw [BitVec.getLsbD_ofNat]
   rw [show (256 : Nat) = 2 ^ 8 from rfl, Nat.testBit_mod_two_pow, Nat.testBit_div_two_pow, BitVec.getLsbD]
   simp [hi, Nat.add_comm]
 rw [BitVec.getLsbD_xor, this, this, this, BitVec.getLsbD_xor]
 cases decide (i < 8) <;> simp

theorem bytes_xor (n : Nat) (c d : BitVec 32) (w v : BitVec 64) : bytes (c ^^^ d) (w ^^^ v) n = bytes c w n ^^^ bytes d v n := by
 induction n generalizing c d with
 | zero => rfl
 | succ n ih => rw [bytes, bytes, bytes, piece_xor, byte_xor, ih]

theorem word_xor (c d : BitVec 32) (w v : BitVec 64) : word (c ^^^ d) (w ^^^ v) = word c w ^^^ word d v := bytes_xor 8 c d w v

theorem bytes_inj (n : Nat) {c d : BitVec 32} {w : BitVec 64} (h : bytes c w n = bytes d w n) : c = d := by
 induction n generalizing c d with
 | zero => exact h
 | succ n ih => exact byte_inj (ih h)

theorem word_inj {c d : BitVec 32} {w : BitVec 64} (h : word c w = word d w) : c = d := bytes_inj 8 h

def all (c : BitVec 32) : List (BitVec 64) → BitVec 32
  | [] => c
  | w :: l => all (word c w) l

theorem all_append (c : BitVec 32) (a b : List (BitVec 64)) : all c (a ++ b) = all (all c a) b := by
 induction a generalizing c with
 | nil => rfl
 | cons w a ih => simp [all, ih]

theorem all_inj {c d : BitVec 32} {l : List (BitVec 64)} (h : all c l = all d l) : c = d := by
 induction l generalizing c d with
 | nil => exact h
 | cons w l ih => exact word_inj (ih h)

theorem all_xor (c d : BitVec 32) (a b : List (BitVec 64)) (h : a.length = b.length) : all (c ^^^ d) (List.zipWith (· ^^^ ·) a b) = all c a ^^^ all d b := by
 induction a generalizing b c d with
 | nil => cases b with
   | nil => rfl
   | cons x b => cases h
 | cons w a ih => cases b with
   | nil => cases h
   | cons x b =>
     simp only [List.zipWith_cons_cons, all]
     rw [word_xor, ih _ _ _ (by simpa using h)]

/-! Four bytes into nothing are told by what comes out. -/

theorem zext (b : BitVec 32) (hb : b.toNat < 256) (i : Nat) (hi : 8 ≤ i) : b.getLsbD i = false := by
 rw [BitVec.getLsbD]
 exact Nat.testBit_lt_two_pow (Nat.lt_of_lt_of_le (show b.toNat < 2 ^ 8 from hb) (Nat.pow_le_pow_right (by decide) hi))

theorem byte_in (x b : BitVec 32) (hb : b.toNat < 256) : steps 8 x ^^^ b = steps 8 (x ^^^ b <<< 8) := by
 rw [steps_xor, steps_shift 8 b (by decide) (by omega)]

theorem join_zero (a b c d : BitVec 32) (ha : a.toNat < 256) (hb : b.toNat < 256) (hc : c.toNat < 256) (hd : d.toNat < 256)
    (h : ((a ^^^ b <<< 8) ^^^ c <<< 16) ^^^ d <<< 24 = 0#32) : a = 0#32 ∧ b = 0#32 ∧ c = 0#32 ∧ d = 0#32 := by
 have g : ∀ i, i < 32 → ((a.getLsbD i ^^ (!decide (i < 8) && b.getLsbD (i - 8))) ^^ (!decide (i < 16) && c.getLsbD (i - 16)) ^^ (!decide (i < 24) && d.getLsbD (i - 24))) = false := by
   intro i hi
   have := congrArg (fun v => v.getLsbD i) h
   simp only [BitVec.getLsbD_xor, BitVec.getLsbD_shiftLeft, BitVec.getLsbD_zero, hi, decide_true, Bool.true_and] at this
   exact this
 refine ⟨?_, ?_, ?_, ?_⟩ <;> apply BitVec.eq_of_getLsbD_eq <;> intro i hi <;> rw [BitVec.getLsbD_zero]
 · by_cases h8 : i < 8
   · have := g i hi
     simpa [h8, show i < 16 from by omega, show i < 24 from by omega] using this
   exact zext a ha i (by omega)
 · by_cases h8 : i < 8
   · have := g (i + 8) (by omega)
     rw [zext a ha (i + 8) (by omega)] at this
     simpa [show ¬ i + 8 < 8 from by omega, show i + 8 < 16 from by omega, show i + 8 < 24 from by omega] using this
   exact zext b hb i (by omega)
 · by_cases h8 : i < 8
   · have := g (i + 16) (by omega)
     rw [zext a ha (i + 16) (by omega), zext b hb (i + 16 - 8) (by omega)] at this
     simpa [show ¬ i + 16 < 8 from by omega, show ¬ i + 16 < 16 from by omega, show i + 16 < 24 from by omega] using this
   exact zext c hc i (by omega)
 by_cases h8 : i < 8
 · have := g (i + 24) (by omega)
   rw [zext a ha (i + 24) (by omega), zext b hb (i + 24 - 8) (by omega), zext c hc (i + 24 - 16) (by omega)] at this
   simpa [show ¬ i + 24 < 8 from by omega, show ¬ i + 24 < 16 from by omega, show ¬ i + 24 < 24 from by omega] using this
 exact zext d hd i (by omega)

theorem four_join (a b c d : BitVec 32) (hb : b.toNat < 256) (hc : c.toNat < 256) (hd : d.toNat < 256) :
    byte (byte (byte (byte 0#32 a) b) c) d = steps 32 (((a ^^^ b <<< 8) ^^^ c <<< 16) ^^^ d <<< 24) := by
 have sh : ∀ (x b : BitVec 32) (n : Nat), n < 32 → b.toNat < 2 ^ (32 - n) → steps n x ^^^ b = steps n (x ^^^ b <<< n) := by
   intro x b n hn hb
   rw [steps_xor, steps_shift n b hn hb]
 unfold byte
 rw [BitVec.zero_xor]
 rw [sh a b 8 (by decide) (by omega), ← steps_add 8 8, sh _ c 16 (by decide) (by omega), ← steps_add 16 8, sh _ d 24 (by decide) (by omega), ← steps_add 24 8]

theorem four_zero (a b c d : BitVec 32) (ha : a.toNat < 256) (hb : b.toNat < 256) (hc : c.toNat < 256) (hd : d.toNat < 256)
    (h : byte (byte (byte (byte 0#32 a) b) c) d = 0#32) : a = 0#32 ∧ b = 0#32 ∧ c = 0#32 ∧ d = 0#32 := by
 rw [four_join a b c d hb hc hd] at h
 exact join_zero a b c d ha hb hc hd (steps_inj (h.trans (steps_zero 32).symm))

theorem piece_lt (w : BitVec 64) (s : Nat) : (piece w s).toNat < 256 := by
 unfold piece
 rw [BitVec.toNat_ofNat]
 have : w.toNat / 2 ^ s % 256 < 256 := Nat.mod_lt _ (by decide)
 omega

theorem piece_eq_zero {w : BitVec 64} {s : Nat} (h : piece w s = 0#32) : w.toNat / 2 ^ s % 256 = 0 := by
 have := congrArg BitVec.toNat h
 unfold piece at this
 rw [BitVec.toNat_ofNat] at this
 have : w.toNat / 2 ^ s % 256 < 256 := Nat.mod_lt _ (by decide)
 simp at *
 omega

theorem byte_zero_zero : byte 0#32 0#32 = 0#32 := by unfold byte; rw [BitVec.xor_self, steps_zero]

/-- A word of which one half is nothing, and the other one is not, gives something. -/
theorem word_low (n : Nat) (h0 : 0 < n) (h1 : n < 2 ^ 32) : word 0#32 (BitVec.ofNat 64 n) ≠ 0#32 := by
 intro h
 have ht : (BitVec.ofNat 64 n).toNat = n := by rw [BitVec.toNat_ofNat]; omega
 have hz : ∀ s, 32 ≤ s → s < 64 → piece (BitVec.ofNat 64 n) s = 0#32 := by
   intro s hs _
   unfold piece
   rw [ht, Nat.div_eq_of_lt (Nat.lt_of_lt_of_le h1 (Nat.pow_le_pow_right (by decide) hs))]
 simp only [word, bytes, Nat.reduceMul] at h
 rw [hz 56 (by decide) (by decide), hz 48 (by decide) (by decide), hz 40 (by decide) (by decide), hz 32 (by decide) (by decide)] at h
 simp only [byte_zero_zero] at h
 obtain ⟨a, b, c, d⟩ := four_zero _ _ _ _ (piece_lt _ _) (piece_lt _ _) (piece_lt _ _) (piece_lt _ _) h
 have a := piece_eq_zero a
 have b := piece_eq_zero b
 have c := piece_eq_zero c
 have d := piece_eq_zero d
 rw [ht] at a b c d
 omega

theorem word_high (n : Nat) (h0 : 0 < n) (h1 : n < 2 ^ 32) : word 0#32 (BitVec.ofNat 64 (n * 4294967296)) ≠ 0#32 := by
 intro h
 have ht : (BitVec.ofNat 64 (n * 4294967296)).toNat = n * 4294967296 := by rw [BitVec.toNat_ofNat]; omega
 have hz : ∀ s, s ≤ 24 → piece (BitVec.ofNat 64 (n * 4294967296)) s = 0#32 := by
   intro s hs
   unfold piece
   rw [ht]
   have : n * 4294967296 / 2 ^ s % 256 = 0 := by
     have e : (4294967296 : Nat) = 2 ^ s * (256 * 2 ^ (24 - s)) := by
       rw [show (256 : Nat) = 2 ^ 8 from rfl, ← Nat.pow_add, ← Nat.pow_add, show s + (8 + (24 - s)) = 32 from by omega]
     rw [e, ← Nat.mul_assoc, Nat.mul_comm n, Nat.mul_assoc, Nat.mul_div_cancel_left _ (Nat.two_pow_pos s)]
     rw [← Nat.mul_assoc, Nat.mul_comm n 256, Nat.mul_assoc]
     exact Nat.mul_mod_right 256 _
   rw [this]
 simp only [word, bytes, Nat.reduceMul] at h
 rw [hz 24 (by decide), hz 16 (by decide), hz 8 (by decide), hz 0 (by decide)] at h
 have e0 : byte (byte (byte (byte 0#32 0#32) 0#32) 0#32) 0#32 = 0#32 := by simp only [byte_zero_zero]
 have h2 := byte_inj (byte_inj (byte_inj (byte_inj (h.trans e0.symm))))
 obtain ⟨a, b, c, d⟩ := four_zero _ _ _ _ (piece_lt _ _) (piece_lt _ _) (piece_lt _ _) (piece_lt _ _) h2
 have a := piece_eq_zero a
 have b := piece_eq_zero b
 have c := piece_eq_zero c
 have d := piece_eq_zero d
 rw [ht] at a b c d
 omega

/-- What a word is turned by tells what its check is turned by. -/
theorem word_turn (c : BitVec 32) (w v : BitVec 64) : word c (w ^^^ v) = word c w ^^^ word 0#32 v := by
 have := word_xor c 0#32 w v
 rwa [BitVec.xor_zero] at this

end Go.Proofs.Ytliaemoomhfcdaa.Crc
namespace Go.Proofs.Ytliaemoomhfcdaa
open Go.RowKit
set_option maxHeartbeats 1000000
set_option maxRecDepth 100000
set_option linter.unusedVariables false
set_option linter.unusedSimpArgs false
theorem _root_.Go.RowKit.Below.next {w a b : World} (h : Below w.heap.size w a) (k : Below a.heap.size a b) : Below w.heap.size w b := h.trans (k.mono h.size)
theorem ret_bool {a b : Bool} (h : a = b) : Ending.returned (.bool a) = .returned (.bool b) := by rw [h]

abbrev ints (l : List Int) : List Value := l.map (Value.int .i64)
theorem ints_one (l : List Int) : ∀ u ∈ ints l, u.oneCell' = true := by
 intro u hu
 obtain ⟨x, _, rfl⟩ := List.mem_map.1 hu
 rfl
theorem ints_get {l : List Int} {k : Nat} {u : Value} (h : (ints l)[k]? = some u) : ∃ x, l[k]? = some x ∧ u = .int .i64 x := by
 rw [List.getElem?_map] at h
 cases hx : l[k]? with
 | none => rw [hx] at h; cases h
 | some x => rw [hx] at h; injection h with h; exact ⟨x, rfl, h.symm⟩

/-- A slice that reads as these numbers, in this world. -/
def RI (w : World) (A : Option Addr) (n : Nat) (xs : List Int) : Prop := Reads w w.heap.size 1 A n (ints xs)
theorem RI.below {w w' : World} {A : Option Addr} {n : Nat} {xs : List Int} (h : RI w A n xs) (hb : Below w.heap.size w w') : RI w' A n xs :=
  (Reads.below h hb).more hb.size
theorem RI.len {w : World} {A : Option Addr} {n : Nat} {xs : List Int} (h : RI w A n xs) : xs.length = n := by
 have := h.1; simpa using this
theorem RI.at_ {w : World} {A : Option Addr} {n : Nat} {xs : List Int} (h : RI w A n xs) {k : Nat} (hk : k < n) :
    ∃ ad x, A = some ad ∧ ad.block < w.heap.size ∧ xs[k]? = some x ∧ w.cell? (ad.add k) = some (.int .i64 x) := by
 obtain ⟨ad, u, e, hb, hx, hc⟩ := Reads.at_ h hk
 obtain ⟨x, hx', rfl⟩ := ints_get hx
 exact ⟨ad, x, e, hb, hx', hc⟩

theorem int_info : (Try.prog.info? 3).map (fun i => (i.zero, i.size, i.bytes)) = some (some (.int .i64 0), 1, 8) := by kernel_rfl
theorem owns_empty (w : World) (e : TypeId) (size : Nat) : (w.alloc (.cells #[] e)).ownsRow w.heap.size e size (.slice (some ⟨w.heap.size, 0, none⟩) 0 0) 0 [] := by
 refine ⟨by simp, .inr ⟨w.heap.size, 0, #[], rfl, Nat.le_refl _, heap_alloc_new _ _, Nat.le_refl _, by simp [maxLen], by simp, by simp⟩⟩
theorem own_ge {w : World} {base e size n : Nat} {v : Value} {xs : List Value} (h : w.ownsRow base e size v n xs) {k : Nat} (hk : v.ownBlock = some k) : base ≤ k := by
 rcases h.2 with ⟨rfl, _⟩ | ⟨g, cap, cur, rfl, hg, _⟩
 · simp [Value.ownBlock] at hk
 simp [Value.ownBlock] at hk
 omega
theorem own_form {w : World} {base e n : Nat} {v : Value} {xs : List Int} (h : w.ownsRow base e 1 v n (ints xs)) : ∃ A c, v = .slice A n c ∧ RI w A n xs := by
 rcases h.2 with ⟨rfl, rfl⟩ | ⟨g, cap, cur, rfl, _⟩
 · exact ⟨none, 0, rfl, Reads.of_own h⟩
 exact ⟨_, cap, rfl, Reads.of_own h⟩
theorem own_cap {w : World} {base e n : Nat} {v : Value} {xs : List Int} (h : w.ownsRow base e 1 v n (ints xs)) : ∃ A c, v = .slice A n c ∧ n ≤ c ∧ RI w A n xs := by
 rcases h.2 with ⟨rfl, rfl⟩ | ⟨g, cap, cur, rfl, _, _, hc, _⟩
 · exact ⟨none, 0, rfl, Nat.le_refl _, Reads.of_own h⟩
 exact ⟨_, cap, rfl, hc, Reads.of_own h⟩

theorem own_lt {w : World} {base e size n : Nat} {v : Value} {xs : List Value} (h : w.ownsRow base e size v n xs) {g : Nat} (hg : v.ownBlock = some g) : g < w.heap.size := by
 rcases h.2 with ⟨rfl, _⟩ | ⟨g', cap, cur, rfl, _, hh, _⟩
 · simp [Value.ownBlock] at hg
 simp [Value.ownBlock] at hg
 subst hg
 rcases Nat.lt_or_ge g' w.heap.size with hlt | hge
 · exact hlt
 rw [Array.getElem?_eq_none hge] at hh; cases hh

theorem clone_any (A : Option Addr) (n c : Nat) (xs : List Int) (w : World) (h : RI w A n xs) (hn : n ≤ 1000000000) :
    Calls Try.prog 86 #[.slice A n c] w fun e w' => ∃ v, e = .returned v ∧ w'.ownsRow w.heap.size 3 1 v n (ints xs) ∧ Below w.heap.size w w' := by
 obtain ⟨i0, hi0, hz0, hz1, hz2⟩ := info_parts int_info
 cases A with
 | none =>
  have h0 : n = 0 := by
    rcases Nat.eq_zero_or_pos n with h0 | h0
    · exact h0
    · obtain ⟨ad, h', _⟩ := h.2 h0; cases h'
  subst h0
  have hx : xs = [] := List.eq_nil_of_length_eq_zero h.len
  subst hx
  have hq : ∀ w, (binOp .eql 22 (.slice none 0 c) (.slice none 0 0)).run Try.prog w = .ok (.bool true) w := fun w => Lib.run_eql_slice_nil w 22 3 none 0 c 0 0 Try.underlying22
  go_enter Try.func86, Try.ntmps86
  go_wp2
  go_ret
  exact ⟨_, rfl, ⟨by simp, .inl ⟨rfl, rfl⟩⟩, Below.refl _ _⟩
 | some ad =>
  have HR := Lib.hid h
  clear h
  have hq : ∀ w, (binOp .eql 22 (.slice (some ad) n c) (.slice none 0 0)).run Try.prog w = .ok (.bool false) w := fun w => Lib.run_eql_slice_nil w 22 3 (some ad) n c 0 0 Try.underlying22
  go_enter Try.func86, Try.ntmps86
  go_wp2_with (first
    | (at_builtin
       refine wpList_append_any _ rfl _ _ _ rfl w.heap.size 3 i0 _ 1 8 Try.underlying22 hi0 hz0 hz1 hz2 rfl (by omega) _ 0 [] rfl (owns_empty w 3 1) w.heap.size (some ad) n c (ints xs) rfl (Reads.below HR.out ((Below.refl _ _).alloc (Nat.le_refl _) _)) (ints_one _) (by simp only [maxLen]; omega) (by omega) (by simp) ?_
       intro v2 w2 hown2 hg2 hat2))
  go_ret
  rw [List.nil_append, Nat.zero_add] at hown2
  exact ⟨_, rfl, hown2, ((Below.refl _ _).alloc (Nat.le_refl _) _).grown hg2 ((Below.refl _ _).alloc (Nat.le_refl _) _).size (fun k hk => own_ge (owns_empty w 3 1) hk)⟩

theorem RI.take {w : World} {A : Option Addr} {n : Nat} {xs : List Int} (h : RI w A n xs) {k : Nat} (hk : k ≤ n) : RI w A k (xs.take k) := by
 have hl := h.len
 refine ⟨by simp; omega, fun hn => ?_⟩
 obtain ⟨ad, e, hb, hc⟩ := h.2 (by omega)
 refine ⟨ad, e, hb, fun j u hj => hc j u ?_⟩
 rw [List.getElem?_map, List.getElem?_take] at hj
 rw [List.getElem?_map]
 split at hj
 · exact hj
 simp at hj

theorem RI.drop {w : World} {A : Option Addr} {n c : Nat} {xs : List Int} (h : RI w A n xs) {k : Nat} (hk : k ≤ n) (hc : n ≤ c) : RI w (if c = k then A else A.map (·.add k)) (n - k) (xs.drop k) := by
 have := Reads.cut h hk hc
 rw [Nat.mul_one] at this
 unfold RI ints
 rw [List.map_drop]
 exact this

theorem RI.dropc {w : World} {ad : Addr} {n c : Nat} {xs : List Int} (h : RI w (some ad) n xs) {k : Nat} (hk : k ≤ n) (hc : n ≤ c) (ck : ¬ c = k) : RI w (some (ad.add k)) (n - k) (xs.drop k) := by
 have := RI.drop h hk hc
 rw [if_neg ck] at this
 exact this

theorem RI.drew {w : World} {A : Option Addr} {n : Nat} {xs : List Int} (h : RI w A n xs) : RI w.drew A n xs := h

theorem RI.nil (w : World) : RI w none 0 [] := Reads.none_

theorem RI.own {w : World} {A : Option Addr} {n c base : Nat} {xs : List Int} (h : w.ownsRow base 3 1 (.slice A n c) n (ints xs)) : RI w A n xs := Reads.of_own h


theorem own_lower {w : World} {base base' : Nat} {e : TypeId} {size n : Nat} {v : Value} {xs : List Value} (h : w.ownsRow base e size v n xs) (hb : base' ≤ base) : w.ownsRow base' e size v n xs := by
 obtain ⟨h1, h2⟩ := h
 refine ⟨h1, ?_⟩
 rcases h2 with h2 | ⟨g, cap, cur, rfl, hg, r⟩
 · exact .inl h2
 exact .inr ⟨g, cap, cur, rfl, Nat.le_trans hb hg, r⟩
/-! The printed texts' own form. -/
open Go.Proofs.YtliaemoomhfcdaaW.PrintWords in
theorem RI_of_C {w : World} {A : Option Addr} {n : Nat} {l : List Int} (h : Kd.C (Kd.int .i64) w A n l) : RI w A n l := by
 refine ⟨by simp [h.1], fun h0 => ?_⟩
 obtain ⟨ad, e, hc⟩ := h.2.2 h0
 have hcell : ∀ j x, l[j]? = some x → w.cell? (ad.add j) = some (.int .i64 x) := by
   intro j x hx
   obtain ⟨c, _, hk, hcc⟩ := hc j x hx
   have hk : c = [.int .i64 x] := hk
   subst hk
   have := hcc 0 _ rfl
   have e : (Kd.int .i64).sz = 1 := rfl
   rwa [e, Nat.mul_one, Nat.add_zero] at this
 refine ⟨ad, e, ?_, fun j u hu => ?_⟩
 · have h1 := hcell 0 _ (List.getElem?_eq_getElem (by rw [h.1]; exact h0))
   have hb := block_of_add ad 0
   rcases Nat.lt_or_ge ad.block w.heap.size with h2 | h2
   · exact h2
   simp [World.cell?, hb, Array.getElem?_eq_none h2] at h1
 obtain ⟨x, hx, rfl⟩ := ints_get hu
 exact hcell j x hx
open Go.Proofs.YtliaemoomhfcdaaW.PrintWords in
theorem C_of_RI {w : World} {A : Option Addr} {n : Nat} {l : List Int} (h : RI w A n l) (hn : n ≤ 9223372036854775807) : Kd.C (Kd.int .i64) w A n l := by
 refine ⟨h.len, hn, fun h0 => ?_⟩
 obtain ⟨ad, e, _, hc⟩ := h.2 h0
 refine ⟨ad, e, fun j x hx => ⟨[.int .i64 x], rfl, rfl, fun i u hu => ?_⟩⟩
 match i, hu with
 | 0, hu =>
  simp at hu
  subst hu
  have e : (Kd.int .i64).sz = 1 := rfl
  rw [e, Nat.mul_one, Nat.add_zero]
  exact hc j _ (by rw [List.getElem?_map, hx]; rfl)
 | i + 1, hu => simp at hu
open Go.Proofs.YtliaemoomhfcdaaW.PrintWords in
theorem R_of_ints {w : World} {base : Nat} {v : Value} {l : List Int} (h : w.ownsRow base 3 1 v l.length (ints l)) : Kd.R (Kd.int .i64) 3 w base (fun _ => True) v l := by
 refine ⟨fun _ _ => trivial, ints l, h, by show (ints l).length = l.length * 1; simp, fun j p hp => ?_⟩
 have e : ((ints l).drop (j * (Kd.int .i64).sz)).take (Kd.int .i64).sz = [.int .i64 p] := by
   have e1 : (Kd.int .i64).sz = 1 := rfl
   obtain ⟨hj, hjp⟩ := List.getElem?_eq_some_iff.1 hp
   rw [e1, Nat.mul_one, List.drop_eq_getElem_cons (by simpa using hj), List.take_succ_cons, List.take_zero, List.getElem_map, hjp]
 rw [e]
 rfl
end Go.Proofs.Ytliaemoomhfcdaa
namespace Go.Proofs.Ytliaemoomhfcdaa
open Go.RowKit
open Crc
set_option maxHeartbeats 400000
set_option maxRecDepth 100000

abbrev u32 (c : BitVec 32) : Value := .int .u32 (c.toNat : Int)

theorem bits_xor32 (a b : BitVec 32) : bits .xor .u32 (a.toNat : Int) (b.toNat : Int) = ((a ^^^ b).toNat : Int) := by
 show IntKind.u32.wrap _ = _
 rw [IntKind.wrap_u32]
 show ((((BitVec.ofInt 32 (a.toNat : Int)) ^^^ (BitVec.ofInt 32 (b.toNat : Int))).toNat : Int)) % 4294967296 = _
 rw [BitVec.ofInt_natCast, BitVec.ofInt_natCast]
 simp only [BitVec.ofNat_toNat, BitVec.setWidth_eq]
 have := (a ^^^ b).isLt
 omega

theorem idx_eq (c : BitVec 32) (b : Nat) : bits .xor .u8 ((c.toNat : Int) % 256) (b : Int) = ((((c ^^^ BitVec.ofNat 32 b) &&& 255#32).toNat : Nat) : Int) := by
 show IntKind.u8.wrap _ = _
 rw [IntKind.wrap_u8]
 show ((((BitVec.ofInt 8 ((c.toNat : Int) % 256)) ^^^ (BitVec.ofInt 8 (b : Int))).toNat : Int)) % 256 = _
 have e : ((c.toNat : Int) % 256) = ((c.toNat % 256 : Nat) : Int) := by omega
 rw [e, BitVec.ofInt_natCast, BitVec.ofInt_natCast]
 have h : ((BitVec.ofNat 8 (c.toNat % 256)) ^^^ (BitVec.ofNat 8 b)).toNat = ((c ^^^ BitVec.ofNat 32 b) &&& 255#32).toNat := by
   rw [BitVec.toNat_xor, BitVec.toNat_and, BitVec.toNat_xor, BitVec.toNat_ofNat, BitVec.toNat_ofNat, BitVec.toNat_ofNat]
   rw [show (255#32).toNat = 2 ^ 8 - 1 from rfl, Nat.and_two_pow_sub_one_eq_mod, Nat.xor_mod_two_pow]
   simp only [Nat.reducePow, Nat.mod_mod]
   rw [show b % 4294967296 % 256 = b % 256 from by omega]
 rw [h]
 have : ((c ^^^ BitVec.ofNat 32 b) &&& 255#32).toNat < 256 := by
   rw [BitVec.toNat_and, show (255#32).toNat = 2 ^ 8 - 1 from rfl, Nat.and_two_pow_sub_one_eq_mod]
   exact Nat.mod_lt _ (by decide)
 omega

theorem idx_lt (c : BitVec 32) (b : Nat) : ((c ^^^ BitVec.ofNat 32 b) &&& 255#32).toNat < 256 := by
 rw [BitVec.toNat_and, show (255#32).toNat = 2 ^ 8 - 1 from rfl, Nat.and_two_pow_sub_one_eq_mod]
 exact Nat.mod_lt _ (by decide)

/-- Block g holds the table. -/
def HasTab (w : World) (g : Nat) : Prop := ∀ i, i < 256 → w.cell? ⟨g, i, none⟩ = some (u32 (tab i))

theorem ret_int {k : IntKind} {a b : Int} (h : a = b) : Ending.returned (.int k a) = .returned (.int k b) := by rw [h]

theorem shr8 (c : BitVec 32) : (c.toNat : Int) / (256 : Int) = ((c >>> 8).toNat : Int) := by
 rw [BitVec.toNat_ushiftRight, Nat.shiftRight_eq_div_pow]; omega

theorem with_any (g : Nat) (c : BitVec 32) (b : Int) (hb0 : 0 ≤ b) (hb1 : b < 256) (w : World) (hg : HasTab w g) :
    Calls Try.prog 126 #[.pointer (some ⟨g, 0, none⟩), u32 c, .int .u8 b] w fun e w' => e = .returned (u32 (byte c (BitVec.ofInt 32 b))) ∧ w = w' := by
 obtain ⟨b, rfl⟩ := Int.eq_ofNat_of_zero_le hb0
 have hbb : BitVec.ofInt 32 (b : Int) = BitVec.ofNat 32 b := by rw [BitVec.ofInt_natCast]
 rw [hbb]
 clear hbb
 have he := idx_eq c b
 have hl := idx_lt c b
 have hc := hg _ hl
 rw [show ((c ^^^ BitVec.ofNat 32 b) &&& 255#32).toNat = (bits .xor .u8 ((c.toNat : Int) % 256) (b : Int)).toNat from by rw [he]; rfl] at hc
 have h0 : 0 ≤ bits .xor .u8 ((c.toNat : Int) % 256) (b : Int) := by omega
 have h1 : bits .xor .u8 ((c.toNat : Int) % 256) (b : Int) < 256 := by omega
 have hfin : bits .xor .u32 ((c.toNat : Int) / 256) ((tab (bits .xor .u8 ((c.toNat : Int) % 256) (b : Int)).toNat).toNat : Int) = ((byte c (BitVec.ofNat 32 b)).toNat : Int) := by
   rw [he, Int.toNat_natCast, shr8, bits_xor32, byte_tab]
   rw [BitVec.toNat_ofNat]; omega
 have HF := Lib.hid hfin
 clear hfin he hg
 go_enter Try.func126, Try.ntmps126
 go_wp2
 go_ret
 exact ⟨ret_int HF.out, rfl⟩

/-- The table's cells, of which so many are laid. -/
def tabCells (k : Nat) : Array Value := ((List.range 256).map fun i => if i < k then u32 (tab i) else .int .u32 0).toArray
theorem tabCells_size (k : Nat) : (tabCells k).size = 256 := by simp [tabCells]
theorem tabCells_get (k i : Nat) (h : i < 256) : (tabCells k)[i]? = some (if i < k then u32 (tab i) else .int .u32 0) := by
 simp [tabCells, h]
theorem tabCells_set (k : Nat) (_h : k < 256) : (tabCells k).setIfInBounds k (u32 (tab k)) = tabCells (k + 1) := by
 apply Array.ext_getElem?
 intro i
 rw [Array.getElem?_setIfInBounds]
 by_cases hi : i < 256
 · rw [tabCells_get _ _ hi, tabCells_get _ _ hi, tabCells_size]
   by_cases he : k = i
   · subst he; simp [hi]
   rw [if_neg he]
   by_cases h1 : i < k
   · simp [h1, show i < k + 1 from by omega]
   simp [h1, show ¬ i < k + 1 from by omega]
 rw [Array.getElem?_eq_none (by rw [tabCells_size]; omega), Array.getElem?_eq_none (by rw [tabCells_size]; omega)]
 rw [tabCells_size]
 by_cases he : k = i
 · omega
 rw [if_neg he]

theorem zeros_run (w : World) : (zeroValue 121).run Try.prog w = .ok (.agg (tabCells 0)) w := by kernel_rfl

theorem bits_and32 (a b : BitVec 32) : bits .and .u32 (a.toNat : Int) (b.toNat : Int) = ((a &&& b).toNat : Int) := by
 show IntKind.u32.wrap _ = _
 rw [IntKind.wrap_u32]
 show ((((BitVec.ofInt 32 (a.toNat : Int)) &&& (BitVec.ofInt 32 (b.toNat : Int))).toNat : Int)) % 4294967296 = _
 rw [BitVec.ofInt_natCast, BitVec.ofInt_natCast]
 simp only [BitVec.ofNat_toNat, BitVec.setWidth_eq]
 have := (a &&& b).isLt
 omega

theorem step_form (c : BitVec 32) :
    bits .xor .u32 ((c.toNat : Int) / (2 : Int)) (bits .and .u32 3988292384 ((-bits .and .u32 (c.toNat : Int) 1) % 4294967296)) = ((Crc.step c).toNat : Int) := by
 have h1 : bits .and .u32 (c.toNat : Int) 1 = (((c &&& 1#32).toNat : Nat) : Int) := bits_and32 c 1#32
 have h2 : ((-(((c &&& 1#32).toNat : Nat) : Int)) % (4294967296 : Int)) = (((-(c &&& 1#32)).toNat : Nat) : Int) := by
   rw [BitVec.toNat_neg]
   have := (c &&& 1#32).isLt
   omega
 have h3 : ((c.toNat : Int) / (2 : Int)) = ((c >>> 1).toNat : Int) := by
   rw [BitVec.toNat_ushiftRight, Nat.shiftRight_eq_div_pow]; omega
 have h4 : (3988292384 : Int) = ((poly).toNat : Int) := rfl
 rw [h1, h2, h3, h4, bits_and32, bits_xor32]
 rfl

theorem setRow_same (w : World) (g : Nat) (cs : Array Value) (t : TypeId) (h : w.heap[g]? = some (.cells cs t (0, 0))) : w.setRow g cs = w := by
 unfold World.setRow
 congr 1
 apply Array.ext_getElem?
 intro i
 rw [Array.getElem?_modify]
 split
 · rename_i e; subst e; rw [h]; rfl
 rfl

theorem tabCells_one (k : Nat) : (tabCells k).all (·.oneCell') = true := by
 simp only [tabCells, List.all_toArray, List.all_map, List.all_eq_true]
 intro i _
 simp only [Function.comp]
 split <;> rfl

theorem table_any (w : World) :
    Calls Try.prog 118 #[] w fun e w' => e = .returned (.agg (tabCells 256)) ∧ Below w.heap.size w w' := by
 have hz := zeros_run
 go_enter Try.func118, Try.ntmps118
 go_wp2
 clear hz
 go_loopw [1, 2, 3] (fun _ _ i wr => ∃ k : Nat, k ≤ 256 ∧ i = .int .i64 k ∧ wr.heap[w.heap.size]? = some (.cells (tabCells k) 121 (0, 0)) ∧ Below w.heap.size w wr) (fun _ _ i _ => 256 - (intOf i).toNat)
 case atStart => exact ⟨0, by omega, rfl, heap_alloc_new _ _, (Below.refl _ _).alloc (Nat.le_refl _) _⟩
 case round =>
  obtain ⟨k, hk, rfl, hb, hB⟩ := hrel
  have HB := Lib.hid hb
  clear hb
  by_cases hlt : k < 256
  rotate_left
  · have hk : k = 256 := by omega
    have HB2 : Hid (wr.heap[w.heap.size]? = some (.cells (tabCells 256) 121 (0, 0))) := by
      have := HB.out
      rw [hk] at this
      exact this
    clear HB hk
    go_wp2_with (first
      | (refine wpList_load_row rfl 121 _ rfl w.heap.size rfl 121 (tabCells 256) (0, 0) _ HB2.out Try.underlying121 rfl (by kernel_rfl) ?_)
      | (refine wpList_store_row rfl 121 _ _ rfl w.heap.size (tabCells 256) rfl rfl 121 (tabCells 256) HB2.out (by kernel_rfl) rfl (tabCells_one 256) ?_; rw [setRow_same _ _ _ _ HB2.out]))
    exact bodyPost_ret_by (results_cell_row rfl _ _ _ _ _ _ _ rfl HB2.out Try.underlying121 rfl (by kernel_rfl)) rfl ⟨rfl, hB⟩
  go_wp2
  obtain ⟨wo, rfl⟩ : ∃ wo : World, wo = wr := ⟨_, rfl⟩
  have hcell : wo.cell? ⟨w.heap.size, k, none⟩ = some (.int .u32 0) := by
    rw [cell_of_row _ _ _ _ _ _ HB.out, tabCells_get _ _ hlt, if_neg (by omega)]
  have hfr : wo.frozen? ⟨w.heap.size, k, none⟩ = false := frozen_of_row _ _ _ _ _ HB.out
  go_loop [2, 8] (fun c j => ∃ n : Nat, n ≤ 8 ∧ j = .int .i64 n ∧ c = u32 (steps n (BitVec.ofNat 32 k))) (fun _ j => 8 - (intOf j).toNat)
  case atStart => exact ⟨0, by omega, rfl, by simp [steps, u32]; omega⟩
  case round =>
   obtain ⟨n, hn, rfl, rfl⟩ := hrel
   by_cases hlt8 : n < 8
   · go_wp2
     go_round
     case rel => exact ⟨n + 1, by omega, by go_num, by rw [steps_succ]; show Value.int _ _ = Value.int _ _; rw [← step_form]⟩
     case measure => simp [intOf]; omega
   have hn8 : n = 8 := by omega
   go_wp2
   go_roundw
   case rel => exact ⟨k + 1, by omega, by go_num, by
     rw [heap_setCell_same _ _ _ _ _ _ HB.out]
     exact congrArg (fun x => some (Obj.cells x 121 (0, 0))) (tabCells_set k hlt), hB.setCell (Nat.le_refl _) _⟩
   case measure => simp [intOf]; omega

theorem piece_form (x : Int) (n : Nat) (hn : 1 ≤ n) : BitVec.ofInt 32 (IntKind.u64.wrap x / 2 ^ (8 * n - 8) % 256) = piece (BitVec.ofInt 64 x) (8 * (n - 1)) := by
 have h64 : IntKind.u64.wrap x = ((BitVec.ofInt 64 x).toNat : Int) := by
   rw [BitVec.toNat_ofInt]
   simp [IntKind.wrap, IntKind.bits, IntKind.signed]
   omega
 rw [h64, show 8 * (n - 1) = 8 * n - 8 from by omega]
 have : (((BitVec.ofInt 64 x).toNat : Int) / 2 ^ (8 * n - 8) % 256) = (((BitVec.ofInt 64 x).toNat / 2 ^ (8 * n - 8) % 256 : Nat) : Int) := by
   rw [Int.natCast_emod, Int.natCast_ediv, Int.natCast_pow]
   rfl
 rw [this, BitVec.ofInt_natCast]
 rfl

theorem word_any (g : Nat) (c : BitVec 32) (x : Int) (w : World) (hg : HasTab w g) :
    Calls Try.prog 119 #[.pointer (some ⟨g, 0, none⟩), u32 c, .int .i64 x] w fun e w' => e = .returned (u32 (word c (BitVec.ofInt 64 x))) ∧ w = w' := by
 have HG := Lib.hid hg
 clear hg
 go_enter Try.func119, Try.ntmps119
 go_wp2
 go_loop [1, 7] (fun v s => ∃ (n : Nat) (d : BitVec 32), n ≤ 8 ∧ s = .int .i64 (8 * (n : Int) - 8) ∧ v = u32 d ∧ Hid (Crc.bytes d (BitVec.ofInt 64 x) n = word c (BitVec.ofInt 64 x))) (fun _ s => (intOf s + 8).toNat)
 case atStart => exact ⟨8, c, by omega, rfl, rfl, Lib.hid (show Crc.bytes c (BitVec.ofInt 64 x) 8 = word c (BitVec.ofInt 64 x) from rfl)⟩
 case round =>
  obtain ⟨n, d, hn, rfl, rfl, hh⟩ := hrel
  by_cases hlt : 1 ≤ n
  · go_wp2_with (go_at_call 126; refine (with_any _ _ _ (by omega) (by omega) _ HG.out).mono ?_; rintro e w' ⟨rfl, rfl⟩)
    go_round
    case rel =>
     refine ⟨n - 1, _, by omega, ?_, rfl, Lib.hid ?_⟩
     · rw [show 8 * ((n - 1 : Nat) : Int) - 8 = 8 * (n : Int) - 8 - 8 from by omega]
     obtain ⟨m, rfl⟩ : ∃ m, n = m + 1 := ⟨n - 1, by omega⟩
     rw [piece_form x (m + 1) hlt]
     exact hh.out
    case measure => simp [intOf]; omega
  obtain rfl : n = 0 := by omega
  go_wp2
  go_ret
  exact ⟨ret_int (by have := hh.out; rw [← this]; rfl), rfl⟩

theorem HasTab.of_row {w : World} {g : Nat} (h : w.heap[g]? = some (.cells (tabCells 256) 121 (0, 0))) : HasTab w g := by
 intro i hi
 rw [cell_of_row _ _ _ _ _ _ h, tabCells_get _ _ hi, if_pos hi]

theorem store_tab (w : World) : (storeCells ⟨w.heap.size, 0, none⟩ (tabCells 256).toList 0).run Try.prog (w.alloc (.cells (tabCells 0) 121)) = .ok () (w.alloc (.cells (tabCells 256) 121)) :=
  run_storeCells_new w 121 (tabCells 0) (tabCells 256) (by kernel_rfl) (by rw [tabCells_size, tabCells_size]) (tabCells_one 256)

theorem hasTab_new (w : World) : HasTab (w.alloc (.cells (tabCells 256) 121)) w.heap.size := HasTab.of_row (heap_alloc_new _ _)

/-- A list of words' check, by definition. -/
def ofWords (l : List Int) : BitVec 32 := all (BitVec.allOnes 32) (l.map (BitVec.ofInt 64))

/-- The slice reads as these numbers. -/
def ReadsInts (w : World) (A : Option Addr) (n : Nat) (xs : List Int) : Prop :=
  xs.length = n ∧ (0 < n → ∃ ad, A = some ad ∧ ad.block < w.heap.size ∧ ∀ j x, xs[j]? = some x → w.cell? (ad.add j) = some (.int .i64 x))

theorem block_add (a : Addr) (n : Nat) : (a.add n).block = a.block := by unfold Addr.add; split <;> rfl

theorem ReadsInts.below {w w' : World} {A : Option Addr} {n : Nat} {xs : List Int} (h : ReadsInts w A n xs) (hb : Below w.heap.size w w') : ReadsInts w' A n xs := by
 refine ⟨h.1, fun hn => ?_⟩
 obtain ⟨ad, e, hlt, hc⟩ := h.2 hn
 exact ⟨ad, e, Nat.lt_of_lt_of_le hlt hb.size, fun j x hj => (hb.cell (p := ad.add j) (by rw [block_add]; exact hlt)).trans (hc j x hj)⟩

theorem HasTab.below {w w' : World} {g : Nat} (h : HasTab w g) (hg : g < w.heap.size) (hb : Below w.heap.size w w') : HasTab w' g :=
  fun i hi => (hb.cell (p := ⟨g, i, none⟩) hg).trans (h i hi)

/-- The check behind the first ones. -/
def acc (xs : List Int) (k : Nat) : BitVec 32 := all (BitVec.allOnes 32) ((xs.take k).map (BitVec.ofInt 64))
theorem acc_succ (l : List Int) (k : Nat) (x : Int) (h : l[k]? = some x) : acc l (k + 1) = word (acc l k) (BitVec.ofInt 64 x) := by
 have : l.take (k + 1) = l.take k ++ [x] := by
   rw [List.take_add_one, h]; rfl
 unfold acc
 rw [this, List.map_append, all_append]
 rfl
theorem acc_zero (l : List Int) : acc l 0 = BitVec.allOnes 32 := rfl
theorem acc_all (l : List Int) (k : Nat) (h : l.length ≤ k) : acc l k = ofWords l := by
 unfold acc ofWords
 rw [List.take_of_length_le h]

/-- The check that is told. -/
def sumOf (xs : List Int) : Int := 4294967295 - ((ofWords xs).toNat : Int)
theorem not_form (c : BitVec 32) : wrap64 (bits .xor .u32 IntKind.u32.max (c.toNat : Int)) = 4294967295 - (c.toNat : Int) := by
 have h : IntKind.u32.max = ((BitVec.allOnes 32).toNat : Int) := rfl
 rw [h, bits_xor32, BitVec.allOnes_xor, BitVec.toNat_not]
 have := c.isLt
 unfold wrap64
 omega

theorem of_call (A : Option Addr) (n cap : Nat) (xs : List Int) (w : World) (hr : ReadsInts w A n xs) (hn : n ≤ 1000000) :
    Calls Try.prog 98 #[.slice A n cap] w fun e w' => e = .returned (.int .i64 (sumOf xs)) ∧ Below w.heap.size w w' := by
 go_enter Try.func98, Try.ntmps98
 have hz := zeros_run
 have hst := store_tab
 go_wp2_with (first
   | (go_at_call 118; refine (table_any _).mono ?_; rintro e w1 ⟨rfl, hB1⟩))
 have hB2 : Below w.heap.size w (w1.alloc (.cells (tabCells 256) 121)) := hB1.alloc hB1.size _
 have hT : HasTab (w1.alloc (.cells (tabCells 256) 121)) w1.heap.size := hasTab_new _
 have hR := hr.below hB2
 generalize hW : w1.alloc (.cells (tabCells 256) 121) = W at *
 generalize w1.heap.size = g at *
 clear hz hst hW hB1
 have HR := Lib.hid hR
 have HT := Lib.hid hT
 clear hR hT hr
 go_loop [4, 10] (fun c i => ∃ k : Nat, k ≤ n ∧ i = .int .i64 k ∧ c = u32 (acc xs k)) (fun _ i => n - (intOf i).toNat)
 case atStart => exact ⟨0, by omega, rfl, rfl⟩
 case round =>
  obtain ⟨k, hk, rfl, rfl⟩ := hrel
  by_cases hlt : k < n
  · obtain ⟨ad, rfl, hb, hc⟩ := HR.out.2 (by omega)
    have hkx : k < xs.length := by have := HR.out.1; omega
    have hck := hc k xs[k] (List.getElem?_eq_getElem hkx)
    have HN := Lib.hid (acc_succ xs k xs[k] (List.getElem?_eq_getElem hkx))
    clear hc
    generalize xs[k] = x at *
    go_wp2_with (go_at_call 119; refine (word_any _ _ _ _ HT.out).mono ?_; rintro e w2 ⟨rfl, rfl⟩)
    go_round
    case rel => exact ⟨k + 1, by omega, by go_num, by rw [HN.out]⟩
    case measure => simp [intOf]; omega
  obtain rfl : k = n := by omega
  go_wp2
  go_ret
  refine ⟨?_, hB2⟩
  have hl := HR.out.1
  have ha := acc_all xs k (by omega)
  exact ret_int (by rw [not_form, ha]; rfl)

theorem ReadsInts.nil (w : World) : ReadsInts w none 0 [] := ⟨rfl, fun h => absurd h (by omega)⟩

theorem ReadsInts.new (w : World) (xs : List Int) (t : TypeId) : ReadsInts (w.alloc (.cells (xs.map (Value.int .i64)).toArray t)) (some ⟨w.heap.size, 0, none⟩) xs.length xs := by
 refine ⟨rfl, fun _ => ⟨_, rfl, by simp, fun j x hj => ?_⟩⟩
 have : (⟨w.heap.size, 0, none⟩ : Addr).add j = ⟨w.heap.size, j, none⟩ := by unfold Addr.add; split <;> simp_all
 rw [this, cell_of_row _ _ _ _ _ _ (heap_alloc_new _ _)]
 simp [hj]


end Go.Proofs.Ytliaemoomhfcdaa
namespace Go.Proofs.Ytliaemoomhfcdaa
open Go.RowKit Go.Shelf
attribute [local go_sem] Oper.semAt_some
set_option maxHeartbeats 2000000
set_option maxRecDepth 100000
set_option linter.unusedVariables false
set_option linter.unusedSimpArgs false

theorem pieces_in (F : Fence) (n : Nat) (hF : F.fn 121) (hro : F.round = none) (s : ByteArray) (w : World) :
    CallsIn F n Try.prog 121 #[.string s] w fun e w' => e = .returned (.func (.func 128) #[] #[.pointer (some ⟨w.heap.size, 0, none⟩)]) ∧ w' = w.alloc (.cells #[.string s] 9) := by
 refine callsIn_of_wp Try.func121 rfl hF ?_ hro
 simp only [Try.ntmps121, List.size_toArray, List.length_cons, List.length_nil, Nat.reduceAdd, Nat.reduceSub, Array.replicate_succ, Array.replicate_zero, List.push_toArray, List.append_toArray, List.nil_append, List.cons_append]
 gi_wp2
 go_ret
 exact ⟨rfl, rfl⟩
/-- A text's piece of seven bytes at most. -/
def pieceAt (s : ByteArray) (i : Nat) : ByteArray := s.extract (7 * i) (min (7 * i + 7) s.size)
def restAt (s : ByteArray) (i : Nat) : ByteArray := s.extract (7 * i) s.size
def piecesTo (s : ByteArray) (k : Nat) : List ByteArray := (List.range k).map (pieceAt s)
theorem piecesTo_succ (s : ByteArray) (k : Nat) : piecesTo s (k + 1) = piecesTo s k ++ [pieceAt s k] := by
 unfold piecesTo
 rw [List.range_succ, List.map_append]; rfl
/-- How many pieces there are. -/
def pieceCount (s : ByteArray) : Nat := (s.size + 6) / 7
theorem rest_size (s : ByteArray) (i : Nat) : (restAt s i).size = s.size - 7 * i := by
 unfold restAt; rw [ByteArray.size_extract]; omega

def boxLen (w : World) (b : Nat) : Nat := match w.cell? ⟨b, 0, none⟩ with
  | some (Value.string t) => t.size
  | _ => 0
theorem boxLen_eq {w : World} {b : Nat} {t : ByteArray} (h : w.cell? ⟨b, 0, none⟩ = some (.string t)) : boxLen w b = t.size := by unfold boxLen; rw [h]
theorem pieces1_in (F : Fence) (n : Nat) (hF : F.fn 128) (hro : F.round = none) (hn : 1 ≤ n) (l Bn : Nat) (s : ByteArray) (J : List ByteArray → World → Prop)
    (hJ : ∀ pre W v, J pre W → J pre (W.setCell ⟨Bn, 0, none⟩ v))
    (hY : ∀ pre x W, x.size ≤ 7 → J pre W → pre.length < pieceCount s → YieldAt F (n - 1) Try.prog l #[.string x] W fun e W' => e = .returned (.bool true) ∧ J (pre ++ [x]) W' ∧ W'.heap[Bn]? = W.heap[Bn]?)
    (W : World) (hB : W.heap[Bn]? = some (.cells #[.string s] 9 (0, 0))) (h0 : J [] W) :
    CallsIn F n Try.prog 128 #[.func (.yield l) #[] #[], .pointer (some ⟨Bn, 0, none⟩)] W fun e W' => (∃ v, e = .returned v) ∧ J (piecesTo s (pieceCount s)) W' := by
 refine callsIn_of_wp Try.func128 rfl hF ?_ hro
 simp only [Try.ntmps128, List.size_toArray, List.length_cons, List.length_nil, Nat.reduceAdd, Nat.reduceSub, Array.replicate_succ, Array.replicate_zero, List.push_toArray, List.append_toArray, List.nil_append, List.cons_append]
 gi_wp2
 gi_loopw [3] (fun _ wr => ∃ k : Nat, k ≤ pieceCount s ∧ Hid (wr.heap[Bn]? = some (.cells #[.string (restAt s k)] 9 (0, 0))) ∧ Hid (J (piecesTo s k) wr)) (fun _ wr => boxLen wr Bn)
 case atStart =>
  refine ⟨0, by omega, Lib.hid ?_, Lib.hid h0⟩
  rw [hB]
  unfold restAt
  rw [Nat.mul_zero, ByteArray.extract_zero_size]
 case round =>
  obtain ⟨k, hk, HB, HJ⟩ := hrel
  have hc : wr.cell? ⟨Bn, 0, none⟩ = some (.string (restAt s k)) := by rw [cell_of_row _ _ _ _ _ _ HB.out]; rfl
  have hf : wr.frozen? ⟨Bn, 0, none⟩ = false := frozen_of_row _ _ _ _ _ HB.out
  have hsz := rest_size s k
  by_cases hlt : 7 * k < s.size
  rotate_left
  · have hz : s.size - 7 * k = 0 := by omega
    have hkc : k = pieceCount s := by unfold pieceCount at hk ⊢; omega
    rw [hz] at hsz
    have HKC := Lib.hid hkc
    clear hkc
    gi_wp2
    go_end0
    refine ⟨⟨_, rfl⟩, ?_⟩
    rw [← HKC.out]; exact HJ.out
  have hpos : 0 < s.size - 7 * k := by omega
  have hkc : k < pieceCount s := by unfold pieceCount; omega
  obtain ⟨fn, tmps, assign, body, hy, hR⟩ := hY (piecesTo s k) (pieceAt s k) wr (by unfold pieceAt; rw [ByteArray.size_extract]; omega) HJ.out (by unfold piecesTo; simpa using hkc)
  have fin : ∀ W', J (piecesTo s k ++ [pieceAt s k]) W' → W'.heap[Bn]? = wr.heap[Bn]? → Hid (J (piecesTo s (k + 1)) (W'.setCell ⟨Bn, 0, none⟩ (.string (restAt s (k + 1))))) ∧
      Hid ((W'.setCell ⟨Bn, 0, none⟩ (.string (restAt s (k + 1)))).heap[Bn]? = some (.cells #[.string (restAt s (k + 1))] 9 (0, 0))) ∧ boxLen (W'.setCell ⟨Bn, 0, none⟩ (.string (restAt s (k + 1)))) Bn = s.size - 7 * (k + 1) ∧
      W'.cell? ⟨Bn, 0, none⟩ = some (.string (restAt s k)) ∧ W'.frozen? ⟨Bn, 0, none⟩ = false := by
    intro W' h1 h2
    rw [HB.out] at h2
    have h3 : (W'.setCell ⟨Bn, 0, none⟩ (.string (restAt s (k + 1)))).heap[Bn]? = some (.cells #[.string (restAt s (k + 1))] 9 (0, 0)) := by
      rw [heap_setCell_same _ _ _ _ _ _ h2]; rfl
    refine ⟨Lib.hid (by rw [piecesTo_succ]; exact hJ _ _ _ h1), Lib.hid h3, ?_, by rw [cell_of_row _ _ _ _ _ _ h2]; rfl, frozen_of_row _ _ _ _ _ h2⟩
    rw [boxLen_eq (t := restAt s (k + 1)) (by rw [cell_of_row _ _ _ _ _ _ h3]; rfl), rest_size]
  have hlen : boxLen wr Bn = s.size - 7 * k := by rw [boxLen_eq hc, hsz]
  have FIN := Lib.hid fin
  have HLEN := Lib.hid hlen
  clear fin hlen
  by_cases h7 : 7 ≤ s.size - 7 * k
  · have e1 : (restAt s k).extract 0 7 = pieceAt s k := by
      unfold restAt pieceAt
      rw [ByteArray.extract_extract]
      congr 1
    have e2 : (restAt s k).extract 7 (s.size - 7 * k) = restAt s (k + 1) := by
      unfold restAt
      rw [ByteArray.extract_extract]
      congr 1
      omega
    have E1 := Lib.hid e1
    have E2 := Lib.hid e2
    rw [← e1] at hy hR
    have HR2 := Lib.hid hR
    clear e1 e2 hR
    gi_wp2
    refine HR2.out.mono ?_
    rintro e W3 ⟨rfl, hJ3, hk3⟩
    rw [E1.out] at hJ3
    obtain ⟨a1, a2, a3, a4, a5⟩ := FIN.out W3 hJ3 hk3
    have A3 := Lib.hid a3
    clear a3 hJ3 hk3
    gi_wp2
    rw [E2.out]
    go_roundw
    case rel => exact ⟨k + 1, by omega, a2, a1⟩
    case measure => rw [A3.out, HLEN.out]; omega
  have e1 : (restAt s k).extract 0 (s.size - 7 * k) = pieceAt s k := by
    unfold restAt pieceAt
    rw [ByteArray.extract_extract]
    congr 1
    omega
  have e2 : ByteArray.empty = restAt s (k + 1) := by
    unfold restAt
    apply ByteArray.ext
    apply Array.ext
    · show ByteArray.size _ = ByteArray.size _
      rw [ByteArray.size_extract]
      show 0 = _
      omega
    · intro i h1 h2
      exact absurd h1 (by simp)
  have E1 := Lib.hid e1
  have E2 := Lib.hid e2
  rw [← e1] at hy hR
  have HR2 := Lib.hid hR
  clear e1 e2 hR
  gi_wp2
  refine HR2.out.mono ?_
  rintro e W3 ⟨rfl, hJ3, hk3⟩
  rw [E1.out] at hJ3
  obtain ⟨a1, a2, a3, a4, a5⟩ := FIN.out W3 hJ3 hk3
  have A3 := Lib.hid a3
  clear a3 hJ3 hk3
  gi_wp2
  rw [E2.out]
  go_roundw
  case rel => exact ⟨k + 1, by omega, a2, a1⟩
  case measure => rw [A3.out, HLEN.out]; omega

/-- A range over a function whose iterator keeps its state in one cell: the rounds run to the end. -/
theorem wpIn_range_box {F : Fence} {n : Nat} {P : Program} {g : Operand} {ps : Array Tmp} {assign body : Code} {Q : Exit → Act → World → Prop} {a : Act} {w : World} {α : Type}
    (hro : F.round = none) (h1 : 1 ≤ n) {gf Bn : Nat} (hg : a.eval g = .func (.func gf) #[] #[.pointer (some ⟨Bn, 0, none⟩)]) (hFg : F.fn gf) (eg : ∀ args w, (callFunc gf args).run P w = .ok (.enter gf args) w)
    {enc : α → Value} {N : Nat} {xs : List α} (Pr : α → Prop) (hps : ps.size = 1) (hBn : Bn < w.heap.size) {B0 : Obj} (hB0 : w.heap[Bn]? = some B0)
    (hseq : ∀ (l : Nat) (J : List α → World → Prop) (W : World), (∀ pre W v, J pre W → J pre (W.setCell ⟨Bn, 0, none⟩ v)) →
      (∀ pre x W1, Pr x → J pre W1 → pre.length < N → YieldAt F (n - 1 - 1) P l #[enc x] W1 fun e W' => e = .returned (.bool true) ∧ J (pre ++ [x]) W' ∧ W'.heap[Bn]? = W1.heap[Bn]?) → W.heap[Bn]? = some B0 → J [] W →
      CallsIn F (n - 1) P gf #[.func (.yield l) #[] #[], .pointer (some ⟨Bn, 0, none⟩)] W fun e W' => (∃ v, e = .returned v) ∧ J xs W')
    (I : List α → World → Prop) (hI : OwnFrom w.heap.size I) (hIB : ∀ pre W v, I pre W → I pre (W.setCell ⟨Bn, 0, none⟩ v)) (h0 : I [] w) (a₁ : α → Act)
    (hassign : ∀ (l : Nat) (x : α) (W : World) (K : Act → World → Prop), K (a₁ x) W →
      assign.wpIn (F.inRound l) (n - 1 - 1) P (Exit.then K (fun _ _ _ => False)) { tmps := (ps.zip #[enc x]).foldl (fun t (p, v) => t.setIfInBounds p v) a.tmps, defers := [] } W)
    (hbody : ∀ (l : Nat) (pre : List α) (x : α) (W : World), Pr x → I pre W → pre.length < N → body.wpIn (F.inRound l) (n - 1 - 1) P (fun e _ W' => e = .normal ∧ KeepsFrom w.heap.size W W' ∧ W'.heap[Bn]? = W.heap[Bn]? ∧ I (pre ++ [x]) W') (a₁ x) W)
    (hdone : ∀ (D : Nat) (W : World), w.heap.size ≤ D → I xs W → W.heap[D]? = some (.deferred (some [])) → Q .normal { a with defers := { target := .collected D, args := #[] } :: a.defers } W) :
    (Code.rangeFunc g ps assign body).wpIn F n P Q a w := by
 refine wpIn_rangeFunc ?_
 intro fn hfn
 rw [hro]
 obtain ⟨rec, hrec⟩ : ∃ rec : LoopState → Option Code → Loop, rec = fun st pe => { state := st, pending := pe, fn, tmps := a.tmps, params := ps, assign, body, defers := w.heap.size } := ⟨_, rfl⟩
 obtain ⟨W1, hW1⟩ : ∃ W1, (w.alloc (.deferred (some []))).alloc (.loop (rec .ready none)) = W1 := ⟨_, rfl⟩
 have hL1 : W1.heap[w.heap.size + 1]? = some (.loop (rec .ready none)) := by
   rw [← hW1]; have := World.alloc_heap_new (w.alloc (.deferred (some []))) (.loop (rec .ready none)); rwa [World.size_alloc] at this
 have hK1 : W1.heap[w.heap.size]? = some (.deferred (some [])) := by
   rw [← hW1]; exact (Below.heap_alloc _ _ _ (by simp)).trans (World.alloc_heap_new w _)
 have hB1 : W1.heap[Bn]? = some B0 := by
   rw [← hW1]; exact (Below.heap_alloc _ _ _ (by simp; omega)).trans ((Below.heap_alloc _ _ _ hBn).trans hB0)
 have hI1 : I [] W1 := by rw [← hW1]; exact hI.alloc _ (hI.alloc _ h0)
 refine ⟨w.heap.size + 1, [{ target := .collected w.heap.size, args := #[] }], W1, { target := .fn (.func gf) #[.pointer (some ⟨Bn, 0, none⟩)], args := #[.func (.yield (w.heap.size + 1)) #[] #[]] }, W1, gf,
   #[.func (.yield (w.heap.size + 1)) #[] #[]] ++ #[.pointer (some ⟨Bn, 0, none⟩)], W1, ?_, ?_, ?_, ?_, fun _ => h1, ?_⟩
 · rw [← hW1, hrec]; exact run_enterLoop_outer _ _ _ _ _
 · simp only [resolve, hg]
   simp [go_sem]
 · intro f' hf'; simp [Target.leads] at hf'; subst hf'; exact hFg
 · simp [invoke, go_sem, eg]
 refine (hseq (w.heap.size + 1)
   (fun pre W => I pre W ∧ W.heap[w.heap.size + 1]? = some (.loop (rec .ready none)) ∧ W.heap[w.heap.size]? = some (.deferred (some [])))
   W1 (fun pre W v hs => ⟨hIB _ _ _ hs.1, (Below.heap_setCell W ⟨Bn, 0, none⟩ v _ (by simp; omega)).trans hs.2.1, (Below.heap_setCell W ⟨Bn, 0, none⟩ v _ (by simp; omega)).trans hs.2.2⟩)
   ?_ hB1 ⟨hI1, hL1, hK1⟩).mono ?_
 · rintro pre x W hpr ⟨hi, hl, hk⟩ hlen
   have hlt : w.heap.size + 1 < W.heap.size := (Array.getElem?_eq_some_iff.1 hl).1
   have hy := run_yield (P := P) (args := #[enc x]) hl (by rw [hrec]; simp [hps])
   rw [hrec] at hy
   refine ⟨fn, _, assign, body, hy, roundIn_of_wpIn hfn (hassign _ x W _ ⟨_, run_beginRound hl (by rw [hrec]), ?_⟩)⟩
   have hl2 : (W.putObj (w.heap.size + 1) (.loop { rec .ready none with state := .busy })).heap[w.heap.size + 1]? = some (.loop { rec .ready none with state := .busy }) := World.putObj_heap_same hlt
   have hk2 : (W.putObj (w.heap.size + 1) (.loop { rec .ready none with state := .busy })).heap[w.heap.size]? = some (.deferred (some [])) := (World.putObj_heap_other (by omega)).trans hk
   refine wpIn_mono (hbody _ pre x _ hpr (hI.putObj _ hi (by omega) hl rfl) hlen) ?_
   rintro e a3 W3 ⟨rfl, hk3, hb3, hi3⟩
   have hl3 := hk3.same _ _ (by omega) hl2 rfl
   have hr := run_endRound (P := P) none hl3
   have hkk := hk3.same _ _ (Nat.le_refl _) hk2 rfl
   refine ⟨_, _, hr, rfl, ⟨hI.putObj _ hi3 (by omega) hl3 rfl, ?_, (World.putObj_heap_other (by omega)).trans hkk⟩, ?_⟩
   · rw [World.putObj_heap_same (Array.getElem?_eq_some_iff.1 hl3).1, hrec]; rfl
   rw [World.putObj_heap_other (by omega), hb3, World.putObj_heap_other (by omega)]
 rintro e W2 ⟨⟨v, rfl⟩, hi, hl, hk⟩
 exact ⟨none, _, by have := run_endLoop (P := P) hl (by rw [hrec]; simp); rw [hrec] at this; exact this, hdone _ _ (Nat.le_refl _) (hI.putObj _ hi (by omega) hl rfl) ((World.putObj_heap_other (by omega)).trans hk)⟩

theorem res_words {tmps : Array Value} {W : World} {b : Nat} {A : Option Addr} {n c : Nat} (hp : tmps.getD 2 undef = .pointer (some ⟨b, 0, none⟩)) (hc : W.cell? ⟨b, 0, none⟩ = some (.slice A n c)) :
    (results Try.f103 tmps).run Try.prog W = .ok (.slice A n c) W := by
 have hp' : tmps[2]?.getD undef = .pointer (some ⟨b, 0, none⟩) := by simpa using hp
 simp [results, Try.results103, go_sem, hp', hc, Try.underlying22, Result.andThen]
def byteAt (p : ByteArray) (i : Nat) : Nat := if h : i < p.size then p[i].toNat else 0
def wAcc (p : ByteArray) : Nat → Int
  | 0 => 0
  | i + 1 => bits .or .i64 (wAcc p i) (wrap64 (wrap64 (byteAt p i : Int) * 2 ^ (8 * (6 - i))))
theorem byteAt_eq {p : ByteArray} {i : Nat} (h : i < p.size) : byteAt p i = p[i].toNat := by unfold byteAt; rw [dif_pos h]
def wordOf (p : ByteArray) : Int := wAcc p p.size
theorem words_in (F : Fence) (n : Nat) (hF : F.fn 103) (hF1 : F.fn 121) (hF2 : F.fn 128) (hro : F.round = none) (hn : 3 ≤ n) (s : ByteArray) (hs : s.size ≤ 1000000000) (w : World) :
    CallsIn F n Try.prog 103 #[.string s] w fun e w' => ∃ v, e = .returned v ∧ w'.ownsRow w.heap.size 3 1 v (pieceCount s) (ints ((piecesTo s (pieceCount s)).map wordOf)) ∧ Below w.heap.size w w' := by
 have h1 : 1 ≤ n := by omega
 have h1' : 1 ≤ n - 1 := by omega
 have h2' : 1 ≤ n - 1 - 1 := by omega
 refine callsIn_of_wp_marks Try.func103 rfl hF ?_ hro
 simp only [Try.ntmps103, List.size_toArray, List.length_cons, List.length_nil, Nat.reduceAdd, Nat.reduceSub, Array.replicate_succ, Array.replicate_zero, List.push_toArray, List.append_toArray, List.nil_append, List.cons_append]
 gi_wp2_with (gi_at_call 121; refine (pieces_in F (n - 1) hF1 hro _ _).mono ?_; rintro e w' ⟨rfl, rfl⟩)
 have hB0 : Below w.heap.size w ((w.alloc (.cells #[.slice none 0 0] 22)).alloc (.cells #[.string s] 9)) := ((Below.refl _ w).alloc (Nat.le_refl _) _).alloc (by simp) _
 have hbn : ((w.alloc (.cells #[.slice none 0 0] 22)).alloc (.cells #[.string s] 9)).heap[w.heap.size + 1]? = some (.cells #[.string s] 9 (0, 0)) := by
   have := World.alloc_heap_new (w.alloc (.cells #[.slice none 0 0] 22)) (.cells #[.string s] 9)
   rwa [World.size_alloc] at this
 refine wpIn_range_box (α := ByteArray) hro h1 (gf := 128) (Bn := w.heap.size + 1) rfl hF2 (enters_of Try.func128 (by kernel_rfl) rfl) (enc := Value.string) (N := pieceCount s) (xs := piecesTo s (pieceCount s)) (fun x => x.size ≤ 7) rfl (by simp) hbn
   (fun l J W hJ hY hB h0 => pieces1_in F (n - 1) hF2 hro h1' l (w.heap.size + 1) s J hJ hY W hB h0)
   (fun pre W => ((∃ v, Boxed W w.heap.size 22 v ∧ W.ownsRow w.heap.size 3 1 v pre.length (ints (pre.map wordOf)) ∧ True) ∧ (∃ u, Boxed W (w.heap.size + 1) 9 u)) ∧ Below w.heap.size w W)
   ?own ?ownB ?start
   (fun x => { tmps := #[.string s, undef, .pointer (some ⟨w.heap.size, 0, none⟩), .string x, undef, undef, .string s, .func (.func 128) #[] #[.pointer (some ⟨w.heap.size + 1, 0, none⟩)], .string x, undef, undef, undef, undef, undef, undef, undef, undef, undef, undef, undef, undef, undef, undef, undef, undef, undef, undef, undef, undef, undef], defers := [] }) ?assign ?body ?done
 case own =>
  exact OwnFrom.and (OwnFrom.and (Own.from (holdsRow_own w.heap.size w.heap.size 22 3 1 (fun pre : List ByteArray => pre.length) (fun pre => ints (pre.map wordOf)) (fun _ _ => True)) _)
    (Own.from (fun s A B row hs hg hr => by
      obtain ⟨u, hu⟩ := hs
      refine ⟨u, hu.kept hg (fun e => ?_)⟩
      obtain ⟨o, ho, hc⟩ := hr _ e.symm
      rw [show A.heap[_]? = _ from hu] at ho; cases ho; cases hc) _)) (ownFrom_below (Nat.le_refl _) (by simp; omega))
 case ownB =>
  rintro pre W v ⟨⟨⟨v0, hv, hrow, _⟩, u, hu⟩, hB⟩
  have hne : w.heap.size ≠ w.heap.size + 1 := by omega
  exact ⟨⟨⟨v0, (Below.heap_setCell W ⟨w.heap.size + 1, 0, none⟩ v _ hne).trans hv, hrow.kept (grownBy_setCell' W _ v) (.inr (hu.not_row (by decide) hrow).symm), trivial⟩, v, hu.set v⟩, hB.setCell (p := ⟨w.heap.size + 1, 0, none⟩) (by simp) v⟩
 case start =>
  exact ⟨⟨⟨_, (Boxed.new w _ _).alloc _, World.ownsRow_nil _ _ _ _, trivial⟩, _, hbn⟩, hB0⟩
 case assign =>
  intro l x W K hK
  gi_wp2
  exact hK
 case body =>
  rintro l pre x W hx7 ⟨⟨⟨v, hv, hrow, _⟩, u, hu⟩, hB⟩ hlen
  gi_wp2
  gi_loopw [4, 5, 11] (fun c _ i wr => ∃ k : Nat, k ≤ x.size ∧ i = .int .i64 k ∧ c = .int .i64 (wAcc x k) ∧ wr = W) (fun _ _ i _ => x.size - (intOf i).toNat)
  case atStart => exact ⟨0, by omega, rfl, rfl, rfl⟩
  case round =>
   obtain ⟨k, hk, rfl, rfl, rfl⟩ := hrel
   by_cases hlt : k < x.size
   · have hby := byteAt_eq hlt
     have HBY := Lib.hid hby
     clear hby
     gi_wp2
     refine ⟨⟨k + 1, by omega, by go_num, ?_, trivial⟩, by simp [intOf]; omega⟩
     rw [wAcc, HBY.out]
   have hkx : k = x.size := by omega
   have hwx : Value.int .i64 (wAcc x k) = .int .i64 (wordOf x) := by rw [hkx]; rfl
   rw [hwx]
   have HHL := Lib.hid hlen
   have HB := Lib.hid hB
   have HV := Lib.hid hv
   have HRO := Lib.hid hrow
   have HU := Lib.hid hu
   have hvc := hv.cell
   obtain ⟨i0, hi, hz0, hz1, hz2⟩ := info_parts int_info
   clear hwx hlen hB hv hrow hu
   gi_wp2_with (gi_at_builtin; refine wpListIn_append_own _ rfl _ _ 22 rfl w.heap.size 3 i0 (.int .i64 0) 1 8 Try.underlying22 hi hz0 hz1 hz2 rfl (by decide) _ _ _ rfl (HRO.out.alloc _) ⟨wr.heap.size, 0, none⟩ 1 1 [.int .i64 (wordOf x)] rfl rfl (cell_one_new _ _ _) (by simp [Value.oneCell']) (by have := HHL.out; unfold pieceCount at this; simp only [maxLen]; omega) (by have := HHL.out; unfold pieceCount at this; omega) (by have := HB.out.size; simp; omega) ?_; intro v' w1 hown' hgrow _; obtain ⟨g', cap', rfl⟩ := ownsRow_succ hown'; obtain ⟨hv1, hv2, hr2, hk2, hb2⟩ := HV.out.appended (by decide) HRO.out HB.out.size (Nat.le_refl _) hown' hgrow; have hc1 := hv1.cell; have hf1 := hv1.frozen)
   have hbb : (w1.setCell ⟨w.heap.size, 0, none⟩ (.slice (some ⟨g', 0, none⟩) (pre.length + 1) cap')).heap[w.heap.size + 1]? = wr.heap[w.heap.size + 1]? := by
     rw [Below.heap_setCell w1 ⟨w.heap.size, 0, none⟩ _ _ (by simp)]
     have h0 := HU.out.lt
     rw [hgrow.block (w.heap.size + 1) (by simp; omega) (HU.out.not_row (by decide) HRO.out)]
     exact Below.heap_alloc wr _ _ h0
   refine ⟨hk2.from _, hbb, ⟨⟨_, hv2, by simpa [List.map_map] using hr2⟩, u, hbb.trans HU.out⟩, HB.out.trans hb2⟩
 case done =>
  rintro D W hD ⟨⟨⟨v, hv, hrow, _⟩, u, hu⟩, hB⟩ hK
  obtain ⟨A, c, rfl, _, _⟩ := own_cap hrow
  have hvc := hv.cell
  have hvf := hv.frozen
  have HB := Lib.hid hB
  have HV := Lib.hid hv
  have HRO := Lib.hid hrow
  have HK := Lib.hid hK
  have HD := Lib.hid hD
  clear hB hv hrow hu hK hD
  gi_wp2
  have hlt := HV.out.lt
  have hne : w.heap.size ≠ D := by have := HD.out; simp at this; omega
  have hK2 : (W.setCell ⟨w.heap.size, 0, none⟩ (.slice A (piecesTo s (pieceCount s)).length c)).heap[D]? = some (.deferred (some [])) := (Below.heap_setCell W ⟨w.heap.size, 0, none⟩ _ D (Ne.symm hne)).trans HK.out
  have hrow2 := HRO.out.kept (grownBy_setCell' W w.heap.size (.slice A (piecesTo s (pieceCount s)).length c)) (.inr (HV.out.not_row (by decide) HRO.out).symm)
  have hb2 := HB.out.setCell (p := ⟨w.heap.size, 0, none⟩) (Nat.le_refl _) (.slice A (piecesTo s (pieceCount s)).length c)
  have hv2 := HV.out.set (.slice A (piecesTo s (pieceCount s)).length c)
  generalize W.setCell ⟨w.heap.size, 0, none⟩ (.slice A (piecesTo s (pieceCount s)).length c) = W2 at *
  have hv3 : Boxed (W2.putObj D (.deferred none)) w.heap.size 22 (.slice A (piecesTo s (pieceCount s)).length c) := (World.putObj_heap_other hne).trans hv2
  refine ⟨by simp, .inl ⟨_, _, rfl, run_takeDeferred hK2, ?_⟩⟩
  have hln : (piecesTo s (pieceCount s)).length = pieceCount s := by unfold piecesTo; simp
  have hfin := ownsRow_putObj hrow2 (.deferred none) hK2 rfl
  have hcell := hv3.cell
  refine ⟨_, res_words rfl hcell, _, rfl, ?_, hb2.trans (belowK_b (w := w) (Nat.le_refl _) W2 D _ _ (by have := HD.out; simp at this; omega) hK2 rfl rfl)⟩
  rw [hln] at hfin ⊢
  exact hfin

/-- A text's words. -/
def wordsOf (s : ByteArray) : List Int := (piecesTo s (pieceCount s)).map wordOf
theorem words_any (s : ByteArray) (hs : s.size ≤ 1000000000) (w : World) :
    Calls Try.prog 103 #[.string s] w fun e w' => ∃ v, e = .returned v ∧ w'.ownsRow w.heap.size 3 1 v (wordsOf s).length (ints (wordsOf s)) ∧ Below w.heap.size w w' := by
 have hl : (wordsOf s).length = pieceCount s := by unfold wordsOf piecesTo; simp
 rw [hl]
 refine (callsIn_wide (n := 3)).1 ?_
 exact words_in _ 3 trivial trivial trivial rfl (Nat.le_refl _) s hs w
end Go.Proofs.Ytliaemoomhfcdaa
namespace Go.Proofs.Ytliaemoomhfcdaa
open Go.RowKit
set_option maxHeartbeats 2000000
set_option maxRecDepth 100000
set_option linter.unusedVariables false
set_option linter.unusedSimpArgs false

theorem u8_info : (Try.prog.info? 5).map (fun i => (i.zero, i.size, i.bytes)) = some (some (.int .u8 0), 1, 1) := by kernel_rfl
abbrev u8s (l : List Int) : List Value := l.map (Value.int .u8)
/-- A word's byte. -/
def bAt (x : Int) (i : Nat) : Int := IntKind.u8.wrap (x / 2 ^ (8 * (6 - i)))
def bTo (x : Int) : Nat → List Int
  | 0 => []
  | i + 1 => bTo x i ++ [bAt x i]
def bsTo (l : List Int) : Nat → List Int
  | 0 => []
  | k + 1 => bsTo l k ++ (match l[k]? with | some x => bTo x 7 | none => [])
def offWord (x : Int) : Bool := decide (x < 0) || decide (72057594037927936 ≤ x)
/-- The text of so many bytes, and why there is none. -/
def textOf (l : List Int) (n : Nat) : ByteArray × Int :=
  if l.any offWord then (⟨#[]⟩, 20)
  else if ((bsTo l l.length).drop n).any (fun b => decide (b ≠ 0)) then (⟨#[]⟩, 20) else (strOfNums ((bsTo l l.length).take n), 0)
theorem bTo_len (x : Int) : ∀ i, (bTo x i).length = i
  | 0 => rfl
  | i + 1 => by rw [bTo, List.length_append, bTo_len x i]; rfl
theorem bsTo_len (l : List Int) : ∀ k, k ≤ l.length → (bsTo l k).length = 7 * k
  | 0, _ => rfl
  | k + 1, h => by
    rw [bsTo, List.length_append, bsTo_len l k (by omega), List.getElem?_eq_getElem (by omega)]
    simp only [bTo_len]; omega
theorem any_take {l : List Int} {p : Int → Bool} {k : Nat} {x : Int} (h : l[k]? = some x) (hp : p x = true) : l.any p = true := List.any_eq_true.2 ⟨x, List.mem_of_getElem? h, hp⟩
theorem bs_step {l : List Int} {k : Nat} {x : Int} (h : l[k]? = some x) : bsTo l (k + 1) = bsTo l k ++ bTo x 7 := by rw [bsTo, h]
theorem own_alloc_ {w : World} {base : Nat} {e : TypeId} {size n : Nat} {v : Value} {xs : List Value} (h : w.ownsRow base e size v n xs) (o : Obj) : (w.alloc o).ownsRow base e size v n xs := h.alloc o
theorem reads_one (w : World) (u : Value) (t : TypeId) : Reads (w.alloc (.cells #[u] t)) (w.heap.size + 1) 1 (some ⟨w.heap.size, 0, none⟩) 1 [u] := by
 refine ⟨rfl, fun _ => ⟨_, rfl, by simp, fun j v hj => ?_⟩⟩
 match j, hj with
 | 0, hj =>
  simp at hj
  subst hj
  have : (⟨w.heap.size, 0, none⟩ : Addr).add 0 = ⟨w.heap.size, 0, none⟩ := by unfold Addr.add; simp
  rw [this, cell_of_row _ _ _ _ _ _ (heap_alloc_new _ _)]; rfl
 | j + 1, hj => simp at hj
def TextPost (l : List Int) (n : Nat) (w : World) (e : Ending) (w' : World) : Prop :=
  e = .returned (.tuple #[.string (textOf l n).1, .int .i64 (textOf l n).2]) ∧ Below w.heap.size w w'
theorem text_any (A : Option Addr) (m c : Nat) (xs : List Int) (n : Nat) (w : World) (h : RI w A m xs) (hm : m ≤ 1000000) (hmc : m ≤ c) (hne : m = n / 7 + min 1 (n % 7)) :
    Calls Try.prog 111 #[.slice A m c, .int .i64 (n : Int)] w (TextPost xs n w) := by
 have HR := Lib.hid h
 have HL := Lib.hid h.len
 clear h
 have hn7 : n ≤ 7 * m := by omega
 have hnn : ¬ (n : Int) < 0 := by omega
 have hne' : (m : Int) = (n : Int) / 7 + min 1 ((n : Int) % 7) := by omega
 clear hne
 obtain ⟨i0, hi0, hz0, hz1, hz2⟩ := info_parts u8_info
 have hmk : ∀ w, (Instr.makeSlice 117 (.int .i64 0) (.int .i64 (7 * (m : Int)))).run Try.prog w = .ok (.slice (some ⟨w.heap.size, 0, none⟩) 0 (7 * m)) (w.alloc (.cells (madeCells #[.int .u8 0] (7 * m)) 5)) := by
   intro w
   have := run_make (P := Try.prog) w 117 5 i0 (.int .u8 0) Try.underlying117 hi0 hz0 .i64 .i64 0 (7 * (m : Int)) (by omega) (by omega) (by rw [hz2]; omega) (by omega)
   rw [hz1] at this
   have e : (7 * (m : Int)).toNat = 7 * m := by omega
   rw [e, Nat.mul_one] at this
   exact this
 have hown0 : (w.alloc (.cells (madeCells #[.int .u8 0] (7 * m)) 5)).ownsRow w.heap.size 5 1 (.slice (some ⟨w.heap.size, 0, none⟩) 0 (7 * m)) 0 [] :=
   World.ownsRow_made w _ _ (Nat.le_refl _) (by simp only [maxLen]; omega) (by simp [size_madeCells])
 have hB0 : Below w.heap.size w (w.alloc (.cells (madeCells #[.int .u8 0] (7 * m)) 5)) := (Below.refl _ _).alloc (Nat.le_refl _) _
 have HOWN0 := Lib.hid hown0
 have HB0 := Lib.hid hB0
 clear hown0 hB0
 have HNE := Lib.hid hne'
 clear hne'
 go_enter Try.func111, Try.ntmps111
 go_upto_region 1 with fail
 go_cut [24] (fun s wx => s = .bool false ∧ w = wx)
 case first =>
  by_cases h7 : (n : Int) % 7 < 1
  · have htest : ((m : Int) != (n : Int) / 7 + (n : Int) % 7) = false := by rw [bne_eq_false_iff_eq]; have := HNE.out; omega
    go_wp2_with fail
    go_meet
    exact ⟨rfl, rfl⟩
  have htest : ((m : Int) != (n : Int) / 7 + 1) = false := by rw [bne_eq_false_iff_eq]; have := HNE.out; omega
  go_wp2_with fail
  go_meet
  exact ⟨rfl, rfl⟩
 case rest =>
 obtain ⟨rfl, rfl⟩ := hcut
 go_wp2
 clear hmk
 go_loopw [6, 31] (fun v i wr => ∃ k : Nat, k ≤ m ∧ i = .int .i64 k ∧ Hid (wr.ownsRow w.heap.size 5 1 v (7 * k) (u8s (bsTo xs k))) ∧ Hid (Below w.heap.size w wr) ∧ Hid ((xs.take k).any offWord = false)) (fun _ i _ => m - (intOf i).toNat)
 case atStart => exact ⟨0, by omega, rfl, HOWN0, HB0, Lib.hid rfl⟩
 case round =>
  obtain ⟨k, hk, rfl, HO, HB, HOFF⟩ := hrel
  obtain ⟨wo, rfl⟩ : ∃ wo : World, wo = wr := ⟨_, rfl⟩
  by_cases hlt : k < m
  · obtain ⟨ad, x, rfl, hb, hx, hat⟩ := (HR.out.below HB.out).at_ hlt
    have HX := Lib.hid hx
    clear hx
    by_cases hx0 : x < 0
    · have HT := Lib.hid (show textOf xs n = (⟨#[]⟩, 20) by unfold textOf; rw [if_pos (any_take HX.out (by unfold offWord; rw [decide_eq_true hx0]; rfl))])
      go_wp2
      first | go_ret2 | (rw [Exit.noGoto_ret]; go_ret2)
      exact ⟨by rw [HT.out]; rfl, HB.out⟩
    by_cases hx1 : 72057594037927936 ≤ x
    · have HT := Lib.hid (show textOf xs n = (⟨#[]⟩, 20) by unfold textOf; rw [if_pos (any_take HX.out (by unfold offWord; rw [decide_eq_true hx1, Bool.or_true]))])
      go_wp2
      first | go_ret2 | (rw [Exit.noGoto_ret]; go_ret2)
      exact ⟨by rw [HT.out]; rfl, HB.out⟩
    have hoff : offWord x = false := by unfold offWord; rw [decide_eq_false hx0, decide_eq_false hx1]; rfl
    have HOX := Lib.hid hoff
    clear hoff
    go_wp2
    go_loopw [6, 41] (fun v i wr => ∃ j : Nat, j ≤ 7 ∧ i = .int .i64 j ∧ Hid (wr.ownsRow w.heap.size 5 1 v (7 * k + j) (u8s (bsTo xs k ++ bTo x j))) ∧ Hid (Below w.heap.size w wr)) (fun _ i _ => 7 - (intOf i).toNat)
    case atStart => exact ⟨0, by omega, rfl, Lib.hid (by rw [bTo, List.append_nil]; exact HO.out), HB⟩
    case round =>
     obtain ⟨j, hj, rfl, HO2, HB2⟩ := hrel
     by_cases hlt7 : j < 7
     · go_wp2_with (first
         | (at_builtin
            refine wpList_append_any _ rfl _ _ _ rfl w.heap.size 5 i0 _ 1 1 Try.underlying117 hi0 hz0 hz1 hz2 rfl (by omega) _ _ _ rfl ((own_alloc_ HO2.out) _) _ _ 1 1 [.int .u8 (bAt x j)] rfl (reads_one _ _ _) (by simp [Value.oneCell']) (by simp only [maxLen]; omega) (by omega) (by have := HB2.out.size; simp; omega) ?_
            intro v2 w2 hown2 hg2 hat2))
       refine ⟨⟨j + 1, by omega, by go_num, Lib.hid ?_, Lib.hid ?_⟩, by simp [intOf]; omega⟩
       · rw [bTo, ← List.append_assoc]
         have : u8s (bsTo xs k ++ bTo x j ++ [bAt x j]) = u8s (bsTo xs k ++ bTo x j) ++ [.int .u8 (bAt x j)] := by unfold u8s; rw [List.map_append]; rfl
         rw [this]
         exact hown2
       exact (HB2.out.alloc HB2.out.size _).grown hg2 (HB2.out.alloc HB2.out.size _).size (fun q hq => own_ge HO2.out hq)
     obtain rfl : j = 7 := by omega
     go_wp2
     refine ⟨⟨k + 1, by omega, by go_num, Lib.hid ?_, HB2, Lib.hid ?_⟩, by simp [intOf]; omega⟩
     · rw [bs_step HX.out]
       exact HO2.out
     rw [List.take_add_one, HX.out, List.any_append, HOFF.out]
     simp [HOX.out]
  have hkm : k = m := by omega
  have hoffall : xs.any offWord = false := by have := HOFF.out; rwa [hkm, List.take_of_length_le (by rw [HL.out]; omega)] at this
  have hlen : (bsTo xs k).length = 7 * m := by rw [hkm]; exact bsTo_len xs m (by rw [HL.out]; omega)
  have hbs : bsTo xs k = bsTo xs xs.length := by rw [hkm, HL.out]
  have htx : textOf xs n = if ((bsTo xs xs.length).drop n).any (fun b => decide (b ≠ 0)) then (⟨#[]⟩, 20) else (strOfNums ((bsTo xs xs.length).take n), 0) := by unfold textOf; rw [hoffall]; rfl
  rw [← hbs] at htx
  have ho := HO.out
  rw [hkm] at ho
  rw [hkm] at htx hlen
  clear hbs hoffall HOFF
  generalize bsTo xs m = bs at ho htx hlen
  have HT := Lib.hid htx
  have HLEN := Lib.hid hlen
  have HKM := Lib.hid hkm
  clear htx hlen hkm HO
  rcases ho.2 with ⟨rfl, h0⟩ | ⟨g, cap, cur, rfl, hg, hh, hc1, hc2, hc3, hc4⟩
  · have hn00 : n = 0 := by omega
    subst hn00
    have hbs0 : bs = [] := List.eq_nil_of_length_eq_zero (by rw [HLEN.out]; exact h0)
    have hres : textOf xs 0 = (ByteArray.empty, 0) := by rw [HT.out, hbs0]; rfl
    have hconv := fun c' => run_convert_bytes_nil (P := Try.prog) wo 117 5 Try.underlying117 Try.underlying5 0 c' 9 Try.underlying9
    have HRES := Lib.hid hres
    clear hres ho
    go_wp2
    go_loopw [59] (fun i wr => i = .int .i64 0 ∧ wr = wo) (fun _ _ => 0)
    case atStart => exact ⟨rfl, rfl⟩
    case round =>
     obtain ⟨rfl, rfl⟩ := hrel
     go_wp2
     first | go_ret2 | (rw [Exit.noGoto_ret]; go_ret2)
     exact ⟨by rw [HRES.out]; rfl, HB.out⟩
  have hcell : ∀ (i : Nat) (y : Int), bs[i]? = some y → wo.cell? ⟨g, i, none⟩ = some (.int .u8 y) := by
    intro i y hy
    have hi : i < 7 * m := by rw [← HLEN.out]; exact (List.getElem?_eq_some_iff.1 hy).1
    rw [cell_of_row _ _ _ _ _ _ hh, ← Array.getElem?_toList]
    have h1 : (u8s bs)[i]? = some (.int .u8 y) := by rw [List.getElem?_map, hy]; rfl
    rw [← hc4, List.getElem?_take, Nat.mul_one, if_pos hi] at h1
    exact h1
  have HCELL := Lib.hid hcell
  have HBASE := Lib.hid hg
  have HC := Lib.hid hc1
  clear ho hh hc1 hc2 hc3 hc4 hcell hg
  have hncap : n ≤ cap := by have := HC.out; omega
  by_cases hcn : cap = n
  · have hmn : 7 * m = n := by have := HC.out; omega
    have hconv : ∀ c', (convert 117 9 (.slice (some ⟨g, 0, none⟩) n c')).run Try.prog wo = .ok (.string (strOfNums (bs.take n))) wo := fun c' =>
      run_convert_bytes_arg wo 117 5 Try.underlying117 Try.underlying5 g 0 n c' (bs.take n) (by rw [List.length_take, HLEN.out]; omega) (fun i hi => by
        rw [Nat.zero_add, List.getD_eq_getElem?_getD, List.getElem?_take, if_pos hi, List.getElem?_eq_getElem (by rw [HLEN.out]; omega)]
        exact HCELL.out i _ (List.getElem?_eq_getElem _)) 9 Try.underlying9
    have hres : textOf xs n = (strOfNums (bs.take n), 0) := by
      rw [HT.out, List.drop_of_length_le (by rw [HLEN.out]; omega)]
      simp
    have HRES := Lib.hid hres
    have hmn' : 7 * m - n = 0 := by omega
    clear hres
    go_wp2
    go_loopw [59] (fun i wr => i = .int .i64 0 ∧ wr = wo) (fun _ _ => 0)
    case atStart => exact ⟨rfl, rfl⟩
    case round =>
     obtain ⟨rfl, rfl⟩ := hrel
     go_wp2
     first | go_ret2 | (rw [Exit.noGoto_ret]; go_ret2)
     exact ⟨by rw [HRES.out]; rfl, HB.out⟩
  have hconv : ∀ c', (convert 117 9 (.slice (some ⟨g, 0, none⟩) n c')).run Try.prog wo = .ok (.string (strOfNums (bs.take n))) wo := fun c' =>
    run_convert_bytes_arg wo 117 5 Try.underlying117 Try.underlying5 g 0 n c' (bs.take n) (by rw [List.length_take, HLEN.out]; omega) (fun i hi => by
      rw [Nat.zero_add, List.getD_eq_getElem?_getD, List.getElem?_take, if_pos hi, List.getElem?_eq_getElem (by rw [HLEN.out]; omega)]
      exact HCELL.out i _ (List.getElem?_eq_getElem _)) 9 Try.underlying9
  have HCONV := Lib.hid hconv
  clear hconv
  go_wp2
  go_loopw [59] (fun i wr => ∃ q : Nat, q ≤ 7 * m - n ∧ i = .int .i64 q ∧ wo = wr ∧ Hid (((bs.drop n).take q).any (fun b => decide (b ≠ 0)) = false)) (fun i _ => 7 * m - (intOf i).toNat)
  case atStart => exact ⟨0, by omega, rfl, rfl, Lib.hid rfl⟩
  case round =>
   obtain ⟨q, hq, rfl, rfl, HZ⟩ := hrel
   by_cases hltq : q < 7 * m - n
   rotate_left
   · have hqe : q = 7 * m - n := by omega
     have hres : textOf xs n = (strOfNums (bs.take n), 0) := by
       have h1 := HZ.out
       rw [hqe, List.take_of_length_le (by rw [List.length_drop, HLEN.out]; omega)] at h1
       rw [HT.out, if_neg (by rw [h1]; simp)]
     have HRES := Lib.hid hres
     have hconv := HCONV.out
     clear hres
     go_wp2
     first | go_ret2 | (rw [Exit.noGoto_ret]; go_ret2)
     exact ⟨by rw [HRES.out]; rfl, HB.out⟩
   have hnq : n + q < bs.length := by rw [HLEN.out]; omega
   have hy : bs[n + q]? = some bs[n + q] := List.getElem?_eq_getElem hnq
   have hyc := HCELL.out _ _ hy
   have hyd : (bs.drop n)[q]? = some bs[n + q] := by rw [List.getElem?_drop]; exact hy
   generalize bs[n + q] = y at hy hyc hyd
   have HYD := Lib.hid hyd
   clear hy hyd hnq
   by_cases hy0 : y = 0
   · subst hy0
     go_wp2
     refine ⟨⟨q + 1, by omega, by go_num, trivial, Lib.hid ?_⟩, by simp [intOf]; omega⟩
     rw [List.take_add_one, HYD.out, List.any_append, HZ.out]
     rfl
   have hres : textOf xs n = (⟨#[]⟩, 20) := by
     rw [HT.out, if_pos (List.any_eq_true.2 ⟨y, List.mem_of_getElem? HYD.out, decide_eq_true hy0⟩)]
   have HRES := Lib.hid hres
   clear hres
   go_wp2
   first | go_ret2 | (rw [Exit.noGoto_ret]; go_ret2)
   exact ⟨by rw [HRES.out]; rfl, HB.out⟩
end Go.Proofs.Ytliaemoomhfcdaa
namespace Go.Proofs.Ytliaemoomhfcdaa
open Go.RowKit

theorem bytesLess_eq : ∀ (x y : List UInt8), Op.bytesLess x y = decide (x < y)
  | [], [] => by simp [Op.bytesLess]
  | _ :: _, [] => by simp [Op.bytesLess]
  | [], _ :: _ => by simp [Op.bytesLess]
  | a :: x, b :: y => by
    rw [Op.bytesLess, bytesLess_eq x y]
    simp only [List.cons_lt_cons_iff]
    by_cases h1 : a < b <;> by_cases h2 : a = b <;> by_cases h3 : x < y <;> simp [h1, h2, h3]
theorem le_flip : ∀ (x y : List UInt8), (Op.bytesLess x y || x == y) = !Op.bytesLess y x
  | [], [] => by simp [Op.bytesLess]
  | _ :: _, [] => by simp [Op.bytesLess]
  | [], _ :: _ => by simp [Op.bytesLess]
  | a :: x, b :: y => by
    have ih := le_flip x y
    simp only [Op.bytesLess]
    rcases Nat.lt_trichotomy a.toNat b.toNat with h | h | h
    · have h1 : a < b := UInt8.lt_iff_toNat_lt.2 h
      have h2 : ¬ b < a := fun k => by have := UInt8.lt_iff_toNat_lt.1 k; omega
      have h3 : ¬ b = a := fun k => by rw [k] at h; omega
      simp [h1, h2, h3]
    · have h0 : a = b := UInt8.toNat_inj.1 h
      subst h0
      have h1 : ¬ a < a := fun k => by have := UInt8.lt_iff_toNat_lt.1 k; omega
      simp only [h1, decide_false, Bool.false_or, beq_self_eq_true, Bool.true_and]
      rw [← ih]
      simp
    · have h1 : b < a := UInt8.lt_iff_toNat_lt.2 h
      have h2 : ¬ a < b := fun k => by have := UInt8.lt_iff_toNat_lt.1 k; omega
      have h3 : ¬ a = b := fun k => by rw [k] at h; omega
      simp [h1, h2, h3]
/-- Does a string stand ahead of another one? -/
def ltS (a b : ByteArray) : Bool := Op.bytesLess a.toList b.toList
/-- The greater one of two strings. -/
def maxS (x y : ByteArray) : ByteArray := if ltS x y = true then y else x
theorem run_max_strs {P : Program} (w : World) (ts : Array TypeId) (t : TypeId) (x y : ByteArray) : (Builtin.max_ ts t #[.string x, .string y]).run P w = .ok (.string (maxS x y)) w := by
 cases h : Op.bytesLess x.toList y.toList <;> simp [Builtin.max_, Builtin.max2, Op.stringOp, asBool, maxS, ltS, h]
/-- May a first block tell of this many slots and this root? -/
def superMay (b r : Int) : Bool := decide (2 ≤ b) && decide (b ≤ 256) && decide (1 ≤ r) && decide (r < b)
theorem bne_t {a b : Int} (h : ¬ a = b) : (a != b) = true := bne_iff_ne.mpr h
theorem bne_f {a b : Int} (h : a = b) : (a != b) = false := bne_eq_false_iff_eq.mpr h
theorem beq_f {a b : Int} (h : ¬ a = b) : (a == b) = false := beq_eq_false_iff_ne.mpr h
theorem beq_t {a b : Int} (h : a = b) : (a == b) = true := beq_iff_eq.mpr h
end Go.Proofs.Ytliaemoomhfcdaa
namespace Go.Proofs.Ytliaemoomhfcdaa
open Go.RowKit

theorem wp_scope_fwd {P : Program} {a : Act} {w : World} {Q : Exit → Act → World → Prop} {c rest : Code} (l : Nat) (hf : findLabel c l = some rest)
    (h : c.wp P (Exit.jump l (fun a w => rest.wp P (Exit.noGoto Q) a w) Q) a w) : (Code.scope c).wp P Q a w :=
  wp_scope_jumps l _ (fun _ _ => 0) hf h (fun a w hJ => Code.wp_mono (fun e a w hq => by cases e <;> first | exact hq | exact hq.elim) hJ)
theorem jumpret {l : Nat} {J : Act → World → Prop} {Q : Exit → Act → World → Prop} {a : Act} {w : World} : Exit.jump l J Q .ret a w = Q .ret a w := rfl
end Go.Proofs.Ytliaemoomhfcdaa
namespace Go.Proofs.Ytliaemoomhfcdaa.Came
open Go.ChangeShapes Go.WideShapes Go.Deep Go.RowKit Go.Proofs.YtliaemoomhfcdaaW.PrintWords
set_option linter.unusedVariables false

section
variable {H : Type} {enc : TypeId × Value → H} {P : Program} {w : World} {base : Nat} {spare : Nat → Bool} {held : Bool}
/-- A type's cells are of this kind, and what they hold is so. -/
def Tells {α : Type} (enc : TypeId × Value → H) (P : Program) (w : World) (base : Nat) (spare : Nat → Bool) (held : Bool) (t : TypeId) (k : Kd α) (G : α → Prop) : Prop :=
  P.cellsOf t = k.sz ∧ ∀ (fuel : Nat) (cs : List Value) (x : DataW H × List MemPlace), DataW.trod enc P w base spare held fuel t cs = some x → ∃ y, k.K w y cs ∧ G y
/-- The cells of some fields, one behind the other. -/
def Fields {α : Type} (enc : TypeId × Value → H) (P : Program) (w : World) (base : Nat) (spare : Nat → Bool) (held : Bool) (off : Nat) (fs : List Field) (k : Kd α) (G : α → Prop) : Prop :=
  ∀ (cs : List Value), cs.length = off + k.sz → (∀ f ∈ fs, ∃ n x, DataW.trod enc P w base spare held n f.type ((cs.drop f.offset).take (P.cellsOf f.type)) = some x) → ∃ y, k.K w y (cs.drop off) ∧ G y
theorem tells_int {t : TypeId} {k : IntKind} (ht : P.underlying t = some (.int k)) (hC : P.cellsOf t = 1) : Tells enc P w base spare held t (Kd.int k) (fun n => (Lit.int k n).wf = true) :=
  ⟨hC, fun fuel cs x h => by
    obtain ⟨m, rfl, _, hw⟩ := DataW.trod_int ht h
    exact ⟨m, rfl, hw⟩⟩
theorem tells_bool {t : TypeId} (ht : P.underlying t = some .bool) (hC : P.cellsOf t = 1) : Tells enc P w base spare held t Kd.bool (fun _ => True) :=
  ⟨hC, fun fuel cs x h => by
    obtain ⟨m, rfl, _⟩ := DataW.trod_bool ht h
    exact ⟨m, rfl, trivial⟩⟩
theorem tells_string {t : TypeId} (ht : P.underlying t = some .string) (hC : P.cellsOf t = 1) : Tells enc P w base spare held t Kd.string (fun s => s.size ≤ maxLen) :=
  ⟨hC, fun fuel cs x h => by
    obtain ⟨m, rfl, _, hw⟩ := DataW.trod_string ht h
    exact ⟨m, rfl, hw⟩⟩
theorem list_of {α : Type} {Q : Nat → α → Prop} : ∀ n, (∀ i, i < n → ∃ x, Q i x) → ∃ l : List α, l.length = n ∧ ∀ i x, l[i]? = some x → Q i x
  | 0, _ => ⟨[], rfl, fun i x h => by simp at h⟩
  | n + 1, h => by
    obtain ⟨l, hl, hq⟩ := list_of n (fun i hi => h i (by omega))
    obtain ⟨x, hx⟩ := h n (by omega)
    refine ⟨l ++ [x], by simp [hl], fun i y hy => ?_⟩
    by_cases hi : i < l.length
    · rw [List.getElem?_append_left hi] at hy; exact hq i y hy
    · rw [List.getElem?_append_right (by omega)] at hy
      have : i - l.length = 0 := by
        rcases Nat.eq_zero_or_pos (i - l.length) with h0 | h0
        · exact h0
        · rw [List.getElem?_eq_none (by simp; omega)] at hy; cases hy
      rw [this] at hy
      simp at hy
      have : i = n := by omega
      rw [this, ← hy]; exact hx
theorem tells_rows {α : Type} {t e : TypeId} {k : Kd α} {G : α → Prop} (ht : P.underlying t = some (.slice e)) (he : Tells enc P w base spare held e k G)
    {fuel : Nat} {cs : List Value} {x : DataW H × List MemPlace} (h : DataW.trod enc P w base spare held fuel t cs = some x) :
    ∃ A c l, cs = [.slice A l.length c] ∧ l.length ≤ c ∧ c ≤ maxLen ∧ k.C w A l.length l ∧ ∀ y ∈ l, G y := by
 rcases open_slice ht h with ⟨rfl, _⟩ | ⟨a, len, cap, m, n, D, Pl, rfl, hb, hl, hm, hmm, hx, hi⟩
 · exact ⟨none, 0, [], rfl, Nat.le_refl _, by simp [maxLen], Kd.C_nil k w, fun y hy => by simp at hy⟩
 obtain ⟨l, hll, hq⟩ := list_of (Q := fun i (y : α) => (∃ c, c.length = k.sz ∧ k.K w y c ∧ ∀ j u, c[j]? = some u → w.cell? (a.add (i * k.sz + j)) = some u) ∧ G y) len (fun i hil => by
   obtain ⟨cs', hc, ht'⟩ := hi i (by rw [hmm]; split <;> omega)
   obtain ⟨_, hcl, hat⟩ := World.cells?_some hc
   obtain ⟨y, hk, hg⟩ := he.2 _ _ _ ht'
   refine ⟨y, ⟨cs', k.K_len hk, hk, fun j u hu => ?_⟩, hg⟩
   have hj : j < P.cellsOf e := by rw [← hcl]; exact (List.getElem?_eq_some_iff.1 hu).1
   have h1 := hat j hj
   rw [he.1] at h1
   rw [← Go.Deep.add_add, ← hu, ← h1])
 subst hll
 refine ⟨_, _, l, rfl, hl, hm, ⟨rfl, by unfold maxLen at hm; omega, fun h0 => ⟨a, rfl, fun j p hp => (hq j p hp).1⟩⟩, fun y hy => ?_⟩
 obtain ⟨i, hi, rfl⟩ := List.mem_iff_getElem.1 hy
 exact (hq i _ (List.getElem?_eq_getElem hi)).2
theorem tells_slice {α : Type} {t e : TypeId} {k : Kd α} {G : α → Prop} (ht : P.underlying t = some (.slice e)) (hC : P.cellsOf t = 1) (he : Tells enc P w base spare held e k G) :
    Tells enc P w base spare held t (Kd.slice e k) (fun l => ∀ y ∈ l, G y) :=
  ⟨hC, fun fuel cs x h => by
    obtain ⟨A, c, l, rfl, h1, _, h2, h3⟩ := tells_rows ht he h
    exact ⟨l, ⟨A, c, rfl, h1, h2⟩, h3⟩⟩
theorem fields_one {α : Type} {off : Nat} {f : Field} {k : Kd α} {G : α → Prop} (h : Tells enc P w base spare held f.type k G) (ho : f.offset = off) : Fields enc P w base spare held off [f] k G := by
 intro cs hl hf
 obtain ⟨n, x, hx⟩ := hf f (by simp)
 obtain ⟨y, hk, hg⟩ := h.2 _ _ _ hx
 rw [ho, h.1, List.take_of_length_le (by rw [List.length_drop]; omega)] at hk
 exact ⟨y, hk, hg⟩
theorem fields_cons {α β : Type} {off : Nat} {f : Field} {fs : List Field} {k1 : Kd α} {k2 : Kd β} {G1 : α → Prop} {G2 : β → Prop} (h : Tells enc P w base spare held f.type k1 G1) (ho : f.offset = off)
    (hr : Fields enc P w base spare held (off + k1.sz) fs k2 G2) : Fields enc P w base spare held off (f :: fs) (Kd.pair k1 k2) (fun y => G1 y.1 ∧ G2 y.2) := by
 intro cs hl hf
 obtain ⟨n, x, hx⟩ := hf f (by simp)
 obtain ⟨y, hk, hg⟩ := h.2 _ _ _ hx
 have e2 : (Kd.pair k1 k2).sz = k1.sz + k2.sz := rfl
 rw [e2] at hl
 obtain ⟨z, hk2, hg2⟩ := hr cs (by omega) (fun g hg => hf g (by simp [hg]))
 rw [ho, h.1] at hk
 refine ⟨(y, z), ⟨_, _, ?_, hk, hk2⟩, hg, hg2⟩
 rw [← List.drop_drop, List.take_append_drop]
theorem tells_struct {α : Type} {t : TypeId} {fs : Array Field} {k : Kd α} {G : α → Prop} (ht : P.underlying t = some (.struct fs)) (hC : P.cellsOf t = k.sz) (hf : Fields enc P w base spare held 0 fs.toList k G) :
    Tells enc P w base spare held t k G :=
  ⟨hC, fun fuel cs x h => by
    obtain ⟨xs, m, _, _, hlen, hxl, hx⟩ := DataW.trod_struct ht h
    obtain ⟨y, hk, hg⟩ := hf cs (by rw [hlen, hC]; omega) (fun f hfm => by
      obtain ⟨i, hi, hfi⟩ := List.mem_iff_getElem.1 hfm
      have hfi' : fs[i]? = some f := by rw [← hfi]; simp at hi ⊢
      have h1 := hx i f hfi'
      have h2 : i < xs.length := by rw [hxl]; simpa using hi
      rw [List.getElem?_eq_getElem h2] at h1
      exact ⟨m, _, h1⟩)
    exact ⟨y, by simpa using hk, hg⟩⟩
theorem tells_iso {α β : Type} {t : TypeId} {k : Kd α} {G : α → Prop} (f : β → α) (g : α → β) (hfg : ∀ y, f (g y) = y) (h : Tells enc P w base spare held t k G) : Tells enc P w base spare held t (Kd.iso k f) (fun y => G (f y)) :=
  ⟨h.1, fun fuel cs x hx => by
    obtain ⟨y, hk, hg⟩ := h.2 _ _ _ hx
    refine ⟨g y, ?_, ?_⟩
    · show k.K w (f (g y)) cs
      rw [hfg]; exact hk
    · show G (f (g y))
      rw [hfg]; exact hg⟩
theorem came_rows {α : Type} {t e : TypeId} {k : Kd α} {G : α → Prop} (ht : P.underlying t = some (.slice e)) (he : Tells enc P w base spare held e k G)
    {r : Reach} {b0 : Nat} {v : Value} {d : DataW H} {p : List MemPlace} (hv : Value.okWide P w r b0 t v) (h : DataW.Trod enc P w base spare held t v d p) :
    ∃ A c l, v = .slice A l.length c ∧ l.length ≤ c ∧ c ≤ maxLen ∧ k.C w A l.length l ∧ ∀ y ∈ l, G y := by
 obtain ⟨A, len, cap, rfl⟩ := okWide_slice ht hv
 obtain ⟨fuel, hf⟩ := h
 obtain ⟨A', c, l, hcs, h1, h2, h3, h4⟩ := tells_rows ht he hf
 simp [Value.cells] at hcs
 obtain ⟨rfl, rfl, rfl⟩ := hcs
 exact ⟨_, _, l, rfl, h1, h2, h3, h4⟩
theorem came_struct {α : Type} {t : TypeId} {fs : Array Field} {k : Kd α} {G : α → Prop} (ht : P.underlying t = some (.struct fs)) (he : Tells enc P w base spare held t k G)
    {r : Reach} {b0 : Nat} {v : Value} {d : DataW H} {p : List MemPlace} (hv : Value.okWide P w r b0 t v) (h : DataW.Trod enc P w base spare held t v d p) :
    ∃ cs y, v = .agg cs ∧ k.K w y cs.toList ∧ G y := by
 obtain ⟨cs, rfl, hsz⟩ := okWide_struct ht hv
 obtain ⟨fuel, hf⟩ := h
 obtain ⟨y, hk, hg⟩ := he.2 _ _ _ hf
 exact ⟨cs, y, rfl, hk, hg⟩
end
end Go.Proofs.Ytliaemoomhfcdaa.Came
namespace Go.Proofs.Ytliaemoomhfcdaa
open Go.ChangeShapes Go.WideShapes Go.Deep Go.RowKit Go.Proofs.YtliaemoomhfcdaaW.PrintWords Go.Proofs.Ytliaemoomhfcdaa.Came
set_option maxRecDepth 100000
variable {H : Type} {enc : TypeId × Value → H} {w : World} {base : Nat} {spare : Nat → Bool} {held : Bool}
theorem open_nums {r : Reach} {b0 : Nat} {v : Value} {d : DataW H} {p : List MemPlace} (hv : Value.okWide Try.prog w r b0 22 v) (h : DataW.Trod enc Try.prog w base spare held 22 v d p) :
    ∃ A c l, v = .slice A l.length c ∧ l.length ≤ c ∧ c ≤ maxLen ∧ Kd.C (Kd.int .i64) w A l.length l ∧ ∀ y ∈ l, (Lit.int .i64 y).wf = true := came_rows Try.underlying22 (tells_int Try.underlying3 (by kernel_rfl)) hv h
end Go.Proofs.Ytliaemoomhfcdaa
