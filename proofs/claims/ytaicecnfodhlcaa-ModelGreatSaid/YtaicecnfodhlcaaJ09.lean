/- New: the parts of a model that is being made. -/
import Derived.Test.YtaicecnfodhlcaaJ03
import Derived.Test.YtaicecnfodhlcaaJ07
import Derived.Test.YtaicecnfodhlcaaJ08
import Derived.Deep.CutRange
set_option linter.unusedVariables false
set_option linter.unusedSimpArgs false
namespace Go.Proofs.Ytaicecnfodhlcaa
open Go.RowKit Go.Deep

/-- IsModel, without what holds of the state itself. -/
structure Parts (w : World) (B : MB) (S : Mst) : Prop where
  obj : PObj w B S
  views : PViews w B S
  there : PThere w B S
  marks : PMarks w B S
  told : PTold w B S
  seals : PSeals w B S
  holds : PHolds w B S
  lt : ∀ g, B.lab g ≠ .no → g < w.heap.size
theorem Parts.keep {w w' : World} {B : MB} {S : Mst} (h : Parts w B S) (hs : w.heap.size ≤ w'.heap.size) (hk : ∀ g, B.lab g ≠ .no → w'.heap[g]? = w.heap[g]?) : Parts w' B S :=
  ⟨h.obj.keep fun g e => hk g (by rw [e]; simp), h.views.keep fun g e => hk g (by rw [e]; simp), h.there.keep fun g e => hk g (by rw [e]; simp),
    h.marks.keep fun g e => hk g (by rcases e with e | ⟨i, e⟩ | ⟨i, e⟩ <;> (rw [e]; simp)), h.told.keep fun g e => hk g (by rcases e with e | ⟨i, e⟩ <;> (rw [e]; simp)),
    h.seals.keep fun g e => hk g (by rcases e with e | ⟨i, e⟩ <;> (rw [e]; simp)), h.holds.keep fun g e => hk g (by rcases e with e | ⟨i, e⟩ <;> (rw [e]; simp)), fun g e => Nat.lt_of_lt_of_le (h.lt g e) hs⟩
theorem Parts.below {w w' : World} {B : MB} {S : Mst} (h : Parts w B S) (k : Below w.heap.size w w') : Parts w' B S := h.keep k.size fun g e => k.block g (h.lt g e)
theorem Parts.model {w : World} {B : MB} {S : Mst} (h : Parts w B S) (hi : S.Inv) : IsModel w B S := ⟨h.obj, h.views, h.there, h.marks, h.told, h.seals, h.holds, hi, h.lt⟩

/-- A machine that is new, j of its operators laid. -/
def Mst.newJ (c : Cfg) (j : Nat) : Mst := { cfg := c, ms := List.replicate j (List.replicate c.so.toNat noMark), told := List.replicate c.op.toNat [], L := [], seals := fun _ => none, holds := fun _ _ => false, now := 1, cnt := ⟨0, 0, 0, 0⟩ }
def Mst.new (c : Cfg) : Mst := Mst.newJ c c.op.toNat
theorem inR_iff {n lo hi : Int} : inR n lo hi = true ↔ lo ≤ n ∧ n ≤ hi := by simp [inR]
theorem Cfg.right_ok {c : Cfg} (h : c.right = true) : c.Ok := by
  unfold Cfg.right Cfg.nums at h
  simp only [Bool.and_eq_true, inR_iff] at h
  obtain ⟨hv, ⟨⟨⟨⟨⟨⟨⟨⟨⟨⟨⟨h0, h1⟩, h2⟩, h3⟩, h4⟩, h5⟩, h6⟩, h7⟩, h8⟩, h9⟩, h10⟩, h11⟩⟩ := h
  exact ⟨by omega, by omega, List.all_eq_true.1 hv, h1, h2, h7⟩
theorem Mst.new_inv {c : Cfg} (h : c.Ok) : (Mst.new c).Inv := by
  have h1 := h.op
  have h2 := h.so
  refine ⟨h, ?_, ?_, ?_, List.Pairwise.nil, fun r hr => (by cases hr), ⟨(by decide : (1 : Int) ≤ 1), (by decide : (1 : Int) ≤ 1099511627776)⟩, fun s e hh => (by cases hh), fun e => ⟨fun hh => (by cases hh), fun ⟨s, hs⟩ => (by cases hs)⟩, fun e L hh => (by cases hh), ⟨(by decide : (0 : Int) ≤ 0), (by decide : (0 : Int) ≤ 0), (by decide : (0 : Int) ≤ 0), (by decide : (0 : Int) ≤ 0)⟩, ?_, ?_⟩
  · show ((List.replicate c.op.toNat _).length : Int) = c.op
    rw [List.length_replicate]; omega
  · intro l hl
    obtain rfl := List.eq_of_mem_replicate hl
    rw [List.length_replicate]
    show ((c.so.toNat : Nat) : Int) = c.so
    omega
  · show (List.replicate c.op.toNat _).length = (List.replicate c.op.toNat _).length
    rw [List.length_replicate, List.length_replicate]
  · intro i hi
    have hi' : i < c.op.toNat := by have : i < (List.replicate c.op.toNat (List.replicate c.so.toNat noMark)).length := hi; simpa using this
    show (List.replicate c.op.toNat (List.replicate c.so.toNat noMark)).getD i [] = ((List.replicate c.op.toNat ([] : List (Int × Int))).getD i []).foldl riseL (List.replicate c.so.toNat noMark)
    simp [List.getD, List.getElem?_replicate, hi']
  · intro l hl c hc
    obtain rfl := List.eq_of_mem_replicate hl
    cases hc
/-- make([]T, n), the same block wherever it is made. -/
theorem make_own' {α : Type} {P : Program} {t e sz bytes : Nat} {enc : α → List Value} {d : α} (K : SlZ P t e sz bytes (enc d)) (hs : ∀ x, (enc x).length = sz) (n : Nat) (hn : n ≤ 1000000000) (hby : bytes ≤ 1024) :
    ∃ o, ∀ w : World, (Instr.makeSlice t (.int .i64 (n : Int)) (.int .i64 (n : Int))).run P w = .ok (.slice (some ⟨w.heap.size, 0, none⟩) n n) (w.alloc o) ∧ Own e sz enc w.heap.size (w.alloc o) (.slice (some ⟨w.heap.size, 0, none⟩) n n) (List.replicate n d) := by
  obtain ⟨hu, hp, hl, i, z, h1, h2, h3, h4, h5⟩ := K
  have hb : i.bytes * n ≤ 1024 * 1000000000 := Nat.mul_le_mul (by omega) hn
  refine ⟨.cells (madeCells z.cells (n * sz)) e, fun w => ?_⟩
  have hr := run_make (P := P) w t e i z hu h1 h2 .i64 .i64 n n (by omega) (Int.le_refl _) (by rw [← Int.natCast_mul]; omega) (by omega)
  simp only [Int.toNat_natCast, h3] at hr
  refine ⟨hr, ?_⟩
  refine ⟨flat_length hs _, .inr ⟨w.heap.size, n, madeCells z.cells (n * sz), by simp, Nat.le_refl _, ?_, by simp, by unfold maxLen; omega, by simp [madeCells], ?_⟩⟩
  · show (w.heap.push _)[w.heap.size]? = _
    simp
  · rw [madeCells_flat h5 hs hp]
    rw [List.length_replicate]
    exact List.take_of_length_le (by rw [flat_length hs]; simp)
theorem sz_calls : SlZ Try.prog 86 106 1 24 (sliceL (default : Slc)) := SlZ.mk' (z := .slice none 0 0) Try.underlying86 (by decide) (by kernel_rfl) rfl rfl
theorem st_ptr : SlT Try.prog 60 61 1 8 := SlT.mk' (z := .pointer none) Try.underlying60 (by decide) (by kernel_rfl) rfl
theorem cells1_ptr : Cells1 ptrL := fun x u hu => by simp at hu; subst hu; rfl

/-- What lies behind region 4. -/
structure NewP (c : Cfg) (n : Nat) (va : Option Addr) (vcap : Nat) (W : World) (mp bt bs bh ta : Nat) (wx : World) : Prop where
  obj : wx.heap[mp]? = some (.cells #[.slice va c.vs.length vcap, .int .i64 c.so, .int .i64 c.op, .int .i64 c.sh, .int .i64 c.sl, .int .i64 c.bx, .int .i64 c.ad, .int .i64 c.pi, .int .i64 c.ch, .int .i64 c.fr, .int .i64 c.inn, .int .i64 c.out,
    .map (some bt), .slice none 0 0, .slice (some ⟨ta, 0, none⟩) n n, .int .i64 1, .map (some bs), .map (some bh), .int .i64 0, .int .i64 0, .int .i64 0, .int .i64 0, .int .i64 0, .int .i64 0] 88 (0, 0))
  there : wx.heap[bt]? = some (.map #[] 0)
  seals : wx.heap[bs]? = some (.map #[] 0)
  holds : wx.heap[bh]? = some (.map #[] 0)
  told : Own 106 1 sliceL 0 wx (.slice (some ⟨ta, 0, none⟩) n n) (List.replicate n default)
  ne : bs ≠ bt ∧ bh ≠ bt ∧ bh ≠ bs
  ge : W.heap.size ≤ mp ∧ W.heap.size ≤ bt ∧ W.heap.size ≤ bs ∧ W.heap.size ≤ bh ∧ W.heap.size ≤ ta
  bel : Below W.heap.size W wx
def labN (mp bt bs bh ta vb : Nat) : Nat → Lbl := fun g => if g = mp then .obj else if g = bt then .there else if g = bs then .seals else if g = bh then .holds else if g = ta then .toldO else if g = vb then .views else .no
theorem labN_no {mp bt bs bh ta vb g : Nat} (h : labN mp bt bs bh ta vb g ≠ .no) : g = mp ∨ g = bt ∨ g = bs ∨ g = bh ∨ g = ta ∨ g = vb := by
  unfold labN at h
  repeat' split at h
  all_goals first | omega | exact absurd rfl h
theorem NewP.parts {c : Cfg} {n vb vcap : Nat} {W wx : World} {mp bt bs bh ta : Nat} (h : NewP c n (some ⟨vb, 0, none⟩) vcap W mp bt bs bh ta wx) (hn : c.op.toNat = n) (hv : Own 76 3 viewL 0 wx (.slice (some ⟨vb, 0, none⟩) c.vs.length vcap) c.vs) (hvb : vb < W.heap.size) :
    Parts wx ⟨mp, bt, bs, bh, some ⟨vb, 0, none⟩, vcap, none, 0, some ⟨ta, 0, none⟩, n, [], List.replicate n default, fun _ => 0, fun _ => none, labN mp bt bs bh ta vb⟩ (Mst.newJ c 0) := by
  subst hn
  obtain ⟨h1, h2, h3, h4, h5, ⟨n1, n2, n3⟩, ⟨g1, g2, g3, g4, g5⟩, hb⟩ := h
  have l1 := lt_of_block h1
  have l2 := lt_of_block h2
  have l3 := lt_of_block h3
  have l4 := lt_of_block h4
  have l5 : ta < wx.heap.size := (h5.ge rfl).2
  have l6 : vb < wx.heap.size := (hv.ge rfl).2
  have ne1 : ∀ b, wx.heap[b]? = some (.map #[] 0) → b ≠ mp := by
    rintro b hb rfl
    rw [h1] at hb; cases hb
  have ne2 : ta ≠ mp ∧ ta ≠ bt ∧ ta ≠ bs ∧ ta ≠ bh := by
    obtain ⟨_, hh⟩ := h5
    rcases hh with ⟨hh, _⟩ | ⟨g, cap, cur, hh, _, hblk, _⟩
    · cases hh
    · injection hh with hh1
      injection hh1 with hh1
      injection hh1 with hh1
      subst hh1
      refine ⟨?_, ?_, ?_, ?_⟩ <;> rintro rfl
      · rw [h1] at hblk; simp at hblk
      · rw [h2] at hblk; cases hblk
      · rw [h3] at hblk; cases hblk
      · rw [h4] at hblk; cases hblk
  have m2 := ne1 bt h2
  have m3 := ne1 bs h3
  have m4 := ne1 bh h4
  refine ⟨⟨?_, by simp [labN]⟩, ⟨hv, ?_⟩, ⟨⟨[], ⟨by simp, #[], 0, h2, by simp, by simp, by simp⟩, List.Perm.refl _⟩, by simp [labN, m2]⟩, ⟨Own.nil _ _ _ _ _, ?_, rfl, fun i h _ => absurd h (Nat.not_lt_zero _)⟩, ⟨?_, ?_, ?_, ?_⟩, ⟨by simp [labN, m3, n1], [], ⟨by simp, #[], 0, h3, by simp, by simp, by simp⟩, fun e L he => (by cases he), (fun e _ => by simp)⟩,
    ⟨by simp [labN, m4, n2, n3], [], ⟨by simp, #[], 0, h4, by simp, by simp, by simp⟩, fun s b he => (by cases he), fun s _ => ⟨by simp, fun e => rfl⟩⟩, ?_⟩
  · show wx.heap[mp]? = some (.cells #[_, _, _, _, _, _, _, _, _, _, _, _, _, .slice none 0 0, .slice _ (List.replicate c.op.toNat ([] : List (Int × Int))).length _, _, _, _, _, _, _, _, _, _] _ _)
    rw [List.length_replicate]
    exact h1
  · intro g hg
    have e : vb = g := by simpa [Value.ownBlock] using hg
    subst e
    have k1 : vb ≠ mp := by omega
    have k2 : vb ≠ bt := by omega
    have k3 : vb ≠ bs := by omega
    have k4 : vb ≠ bh := by omega
    have k5 : vb ≠ ta := by omega
    simp [labN, k1, k2, k3, k4, k5]
  · intro g hg; cases hg
  · show Own _ _ _ _ _ (.slice _ (List.replicate c.op.toNat ([] : List (Int × Int))).length _) _
    rw [List.length_replicate]
    exact h5
  · intro g hg
    have e : ta = g := by simpa [Value.ownBlock] using hg
    subst e
    simp [labN, ne2]
  · show (List.replicate c.op.toNat (default : Slc)).length = (List.replicate c.op.toNat ([] : List (Int × Int))).length
    rw [List.length_replicate, List.length_replicate]
  · intro i h h2
    have e1 : (List.replicate c.op.toNat (default : Slc))[i] = default := by simp
    have e2 : (Mst.newJ c 0).told[i] = [] := by simp [Mst.newJ]
    refine ⟨?_, ?_⟩
    · show Own _ _ _ _ _ ((List.replicate c.op.toNat (default : Slc))[i]).v _
      rw [e1, e2]
      exact Own.nil _ _ _ _ _
    · show ∀ g, (((List.replicate c.op.toNat (default : Slc))[i]).v).ownBlock = some g → _
      rw [e1]
      intro g hg
      cases hg
  · intro g hg
    rcases labN_no hg with rfl | rfl | rfl | rfl | rfl | rfl <;> assumption
/-- The builtin append of elements onto a slice of the call's own, with where it lies. -/
theorem wpList_app3 {α : Type} {P : Program} {ops : Array Oper} {Q : Exit → Act → World → Prop} {a : Act} {w : World} {rest : List Oper} {o : Oper} {t e sz bytes : Nat} (K : SlT P t e sz bytes)
    (hgd : o.guard = none) (s x : Operand) (ho : o.op = .call { callee := .builtin .append, args := #[s, x], argTypes := #[t, t] })
    (enc : α → List Value) (hz : ∀ x, (enc x).length = sz) (h1 : Cells1 enc) (B : Nat) (v : Value) (xs : List α) (hs : a.eval s = v) (hown : Own e sz enc B w v xs)
    (b off : Nat) (m c : Nat) (ys : List α) (hx : a.eval x = .slice (some ⟨b, off, none⟩) m c) (hm : m = ys.length) (hsl : Sl sz enc w (some ⟨b, off, none⟩) ys) (hmax : xs.length + ys.length ≤ 1000000000) (hby : bytes ≤ 1024) (hB : B ≤ w.heap.size)
    (h : ∀ v' w', Own e sz enc B w' v' (xs ++ ys) → w.grownBy w' v.ownBlock → (v'.ownBlock = v.ownBlock ∨ v'.ownBlock = some w.heap.size) → wpList P ops Q rest (a.put o.dst v') w') : wpList P ops Q (o :: rest) a w := by
  subst hm
  obtain ⟨ht, hsz, i, z, hi, hz0, hsize, hbytes, hzs⟩ := K
  have hb : (xs.length + ys.length) * bytes ≤ 140737488355328 := Nat.le_trans (Nat.mul_le_mul hmax hby) (by omega)
  have hm : xs.length + ys.length ≤ maxLen := by unfold maxLen; omega
  obtain ⟨v', w', hr, h2, h3, _, h4⟩ := run_append_own_at (P := P) w B t o.type e i z sz bytes ht hi hz0 hsize hbytes hzs hsz v xs.length (xs.flatMap enc) hown ⟨b, off, none⟩ ys.length c (ys.flatMap enc) (flat_length hz ys) (hsl.flat hz) (fun u hu => by obtain ⟨y, _, hy⟩ := List.mem_flatMap.1 hu; exact h1 y u hy) hm hb hB
  refine wpList_plain hgd fun K' hK => ?_
  unfold Oper.wp execOp
  simp only [ho, resolve, invoke, builtin, Sem.run_bind, Sem.run_pure, Result.andThen_ok, List.map_toArray, List.map_cons, List.map_nil, hs, hx, hr]
  refine hK _ _ (h v' w' ?_ h3 h4)
  unfold Own; simpa using h2
theorem told_at {n mo : Nat} {o : Obj} {W : World} {op : Int} (h : Own 106 1 sliceL W.heap.size (W.alloc o) (.slice (some ⟨W.heap.size, 0, none⟩) n n) (List.replicate n default)) (k : Nat) (hk : k = W.heap.size) : Own 106 1 sliceL 0 (W.alloc o) (.slice (some ⟨k, 0, none⟩) n n) (List.replicate n default) := by
  subst hk; exact h.mono (Nat.zero_le _)
def labG (lab : Nat → Lbl) (j bm bl : Nat) (v : Value) : Nat → Lbl := fun g => if g = bm then .mobj j else if g = bl then .mrow j else if v.ownBlock = some g then .marks else lab g
/-- One more operator's marks are laid. -/
theorem Parts.grow {w w' : World} {B : MB} {c : Cfg} {j : Nat} (h : Parts w B (Mst.newJ c j)) (bm bl : Nat) (hbm : B.lab bm = .no) (hbl : B.lab bl = .no) (hne : bl ≠ bm) (hmk : IsMarks w' bm bl (List.replicate c.so.toNat noMark)) (o5 : Option Addr) (cap5 : Nat)
    (hown : Own 61 1 ptrL 0 w' (.slice o5 (j + 1) cap5) (B.mks ++ [(bm, bl)])) (hob : (Value.slice o5 (j + 1) cap5).ownBlock = (Value.slice B.ma j B.mcap).ownBlock ∨ ∃ x, (Value.slice o5 (j + 1) cap5).ownBlock = some x ∧ B.lab x = .no ∧ x ≠ bm ∧ x ≠ bl)
    (hobj : w'.heap[B.mp]? = some (.cells #[.slice B.av c.vs.length B.vcap, .int .i64 c.so, .int .i64 c.op, .int .i64 c.sh, .int .i64 c.sl, .int .i64 c.bx, .int .i64 c.ad, .int .i64 c.pi, .int .i64 c.ch, .int .i64 c.fr, .int .i64 c.inn, .int .i64 c.out,
      .map (some B.bt), .slice o5 (j + 1) cap5, .slice B.ta c.op.toNat B.tcap, .int .i64 1, .map (some B.bs), .map (some B.bh), .int .i64 0, .int .i64 0, .int .i64 0, .int .i64 0, .int .i64 0, .int .i64 0] 88 (0, 0)))
    (hk : ∀ g, B.lab g ≠ .no → B.lab g ≠ .obj → B.lab g ≠ .marks → w'.heap[g]? = w.heap[g]?) (hs : w.heap.size ≤ w'.heap.size) :
    Parts w' { B with ma := o5, mcap := cap5, mks := B.mks ++ [(bm, bl)], lab := labG B.lab j bm bl (.slice o5 (j + 1) cap5) } (Mst.newJ c (j + 1)) := by
  have hmsl : ∀ i, (Mst.newJ c i).ms.length = i := fun i => List.length_replicate
  have hlen := h.marks.len
  rw [hmsl] at hlen
  have hlbo := h.marks.lb
  rw [hmsl] at hlbo
  have hl : ∀ g, B.lab g ≠ .no → labG B.lab j bm bl (.slice o5 (j + 1) cap5) g = B.lab g := by
    intro g hg
    have e1 : g ≠ bm := fun e => hg (by rw [e]; exact hbm)
    have e2 : g ≠ bl := fun e => hg (by rw [e]; exact hbl)
    unfold labG
    rw [if_neg e1, if_neg e2]
    split
    · rename_i ho
      rcases hob with hob | ⟨x, hx, hx0, _⟩
      · rw [ho] at hob
        exact (hlbo g hob.symm).symm
      · rw [ho] at hx
        injection hx with e
        subst e
        exact absurd hx0 hg
    · rfl
  have hl' : ∀ g x, x ≠ .no → B.lab g = x → labG B.lab j bm bl (.slice o5 (j + 1) cap5) g = x := fun g x hx e => (hl g (by rw [e]; exact hx)).trans e
  refine ⟨⟨?_, hl' _ _ (by decide) h.obj.lb⟩, ?_, ?_, ⟨?_, ?_, ?_, ?_⟩, ?_, ?_, ?_, ?_⟩
  · show w'.heap[B.mp]? = some (.cells #[_, _, _, _, _, _, _, _, _, _, _, _, _, .slice o5 (Mst.newJ c (j + 1)).ms.length cap5, .slice _ (List.replicate c.op.toNat ([] : List (Int × Int))).length _, _, _, _, _, _, _, _, _, _] _ _)
    rw [hmsl, List.length_replicate]
    exact hobj
  · exact (h.views.keep fun g e => hk g (by rw [e]; simp) (by rw [e]; simp) (by rw [e]; simp)).cast rfl rfl rfl fun g e => hl' g _ (by decide) e
  · exact (h.there.keep fun g e => hk g (by rw [e]; simp) (by rw [e]; simp) (by rw [e]; simp)).cast rfl rfl fun g e => hl' g _ (by decide) e
  · show Own _ _ _ _ _ (.slice o5 (Mst.newJ c (j + 1)).ms.length cap5) _
    rw [hmsl]
    exact hown
  · show ∀ g, (Value.slice o5 (Mst.newJ c (j + 1)).ms.length cap5).ownBlock = some g → _
    rw [hmsl]
    intro g hg
    show labG B.lab j bm bl (.slice o5 (j + 1) cap5) g = .marks
    rcases hob with hob | ⟨x, hx, hx0, hx1, hx2⟩
    · rw [hg] at hob
      exact hl' g _ (by decide) (hlbo g hob.symm)
    · rw [hg] at hx
      injection hx with e
      subst e
      unfold labG
      rw [if_neg hx1, if_neg hx2, if_pos hg]
  · show (B.mks ++ [(bm, bl)]).length = (Mst.newJ c (j + 1)).ms.length
    rw [hmsl, List.length_append, hlen]
    rfl
  · intro i h1 h2
    have h1' : i < (B.mks ++ [(bm, bl)]).length := h1
    have hi : i < j + 1 := by rw [hmsl] at h2; exact h2
    have e2 : (Mst.newJ c (j + 1)).ms[i] = List.replicate c.so.toNat noMark := by simp [Mst.newJ]
    rw [e2]
    show IsMarks w' (B.mks ++ [(bm, bl)])[i].1 (B.mks ++ [(bm, bl)])[i].2 _ ∧ labG B.lab j bm bl (.slice o5 (j + 1) cap5) (B.mks ++ [(bm, bl)])[i].1 = .mobj i ∧ labG B.lab j bm bl (.slice o5 (j + 1) cap5) (B.mks ++ [(bm, bl)])[i].2 = .mrow i
    by_cases e : i < B.mks.length
    · rw [List.getElem_append_left e]
      obtain ⟨a1, a2, a3⟩ := h.marks.at' i e (by rw [hmsl]; omega)
      have e3 : (Mst.newJ c j).ms[i]'(by rw [hmsl]; omega) = List.replicate c.so.toNat noMark := by simp [Mst.newJ]
      rw [e3] at a1
      exact ⟨a1.keep (hk _ (by rw [a2]; simp) (by rw [a2]; simp) (by rw [a2]; simp)) (hk _ (by rw [a3]; simp) (by rw [a3]; simp) (by rw [a3]; simp)), hl' _ _ (by simp) a2, hl' _ _ (by simp) a3⟩
    · have hij : i = j := by omega
      have e4 : (B.mks ++ [(bm, bl)])[i] = (bm, bl) := by
        rw [List.getElem_append_right (by omega)]
        simp
      rw [e4]
      refine ⟨hmk, ?_, ?_⟩
      · unfold labG; rw [if_pos rfl, hij]
      · unfold labG; rw [if_neg hne, if_pos rfl, hij]
  · exact (h.told.keep fun g e => hk g (by rcases e with e | ⟨i, e⟩ <;> (rw [e]; simp)) (by rcases e with e | ⟨i, e⟩ <;> (rw [e]; simp)) (by rcases e with e | ⟨i, e⟩ <;> (rw [e]; simp))).cast rfl rfl rfl rfl fun g e => hl g (by rcases e with e | ⟨i, e⟩ <;> (rw [e]; simp))
  · exact (h.seals.keep fun g e => hk g (by rcases e with e | ⟨i, e⟩ <;> (rw [e]; simp)) (by rcases e with e | ⟨i, e⟩ <;> (rw [e]; simp)) (by rcases e with e | ⟨i, e⟩ <;> (rw [e]; simp))).cast rfl rfl rfl fun g e => hl g (by rcases e with e | ⟨i, e⟩ <;> (rw [e]; simp))
  · exact (h.holds.keep fun g e => hk g (by rcases e with e | ⟨i, e⟩ <;> (rw [e]; simp)) (by rcases e with e | ⟨i, e⟩ <;> (rw [e]; simp)) (by rcases e with e | ⟨i, e⟩ <;> (rw [e]; simp))).cast rfl rfl rfl fun g e => hl g (by rcases e with e | ⟨i, e⟩ <;> (rw [e]; simp))
  · intro g hg
    by_cases e1 : g = bm
    · rw [e1]; exact hmk.lt.1
    · by_cases e2 : g = bl
      · rw [e2]; exact hmk.lt.2
      · by_cases e3 : (Value.slice o5 (j + 1) cap5).ownBlock = some g
        · exact (hown.ge e3).2
        · have e4 : labG B.lab j bm bl (.slice o5 (j + 1) cap5) g = B.lab g := by unfold labG; rw [if_neg e1, if_neg e2, if_neg e3]
          have hg' : labG B.lab j bm bl (.slice o5 (j + 1) cap5) g ≠ .no := hg
          rw [e4] at hg'
          exact Nat.lt_of_lt_of_le (h.lt g hg') hs
end Go.Proofs.Ytaicecnfodhlcaa
/- New. -/
set_option linter.unusedVariables false
set_option linter.unusedSimpArgs false
namespace Go.Proofs.Ytaicecnfodhlcaa
open Go.RowKit Go.Deep

set_option maxRecDepth 100000 in
set_option maxHeartbeats 8000000 in
theorem mnew_bad (c : Cfg) (a : Option Addr) (cap : Nat) (w : World) (hs : Sl 3 viewL w a c.vs) (hl : c.vs.length ≤ 1000000000) (hr : c.right = false) :
    Calls Try.prog 9 #[cfgV c a cap] w fun e w' => e = .returned (.tuple #[.pointer none, .int .i64 24]) ∧ Below w.heap.size w w' := by
  have hb0 : Below w.heap.size w (w.alloc (cfgO c a cap)) := (Below.refl _ _).alloc (Nat.le_refl _) _
  have hri := right_any c a cap (w.alloc (cfgO c a cap)) (hs.below hb0) hl
  rw [hr] at hri
  have Hb0 := Lib.hid hb0
  clear hb0 hs hr
  obtain ⟨vs, so, op, sh, sl, bx, ad, pi, ch, fr, inn, out⟩ := c
  dsimp only at *
  go_enter Try.func9, Try.ntmps9
  go_wp2_with fail
  refine hri.mono ?_
  rintro e w1 ⟨rfl, hb1⟩
  go_wp2_with fail
  go_ret2
  exact ⟨rfl, Hb0.out.trans (hb1.mono Hb0.out.size)⟩

/-- What stays in the drawn region. -/
abbrev NewA (g : Nat) (vs : Value) (so op sh sl bx ad pi ch fr inn out : Int) (W0 W : World) : Prop :=
  Below W0.heap.size W0 W ∧ W.cell? ⟨g, 0, none⟩ = some vs ∧ W.cell? ⟨g, 1, none⟩ = some (.int .i64 so) ∧ W.cell? ⟨g, 2, none⟩ = some (.int .i64 op) ∧ W.cell? ⟨g, 3, none⟩ = some (.int .i64 sh) ∧ W.cell? ⟨g, 4, none⟩ = some (.int .i64 sl) ∧ W.cell? ⟨g, 5, none⟩ = some (.int .i64 bx) ∧
    W.cell? ⟨g, 6, none⟩ = some (.int .i64 ad) ∧ W.cell? ⟨g, 7, none⟩ = some (.int .i64 pi) ∧ W.cell? ⟨g, 8, none⟩ = some (.int .i64 ch) ∧ W.cell? ⟨g, 9, none⟩ = some (.int .i64 fr) ∧ W.cell? ⟨g, 10, none⟩ = some (.int .i64 inn) ∧ W.cell? ⟨g, 11, none⟩ = some (.int .i64 out)
theorem own_drew {α : Type} {E sz B : Nat} {enc : α → List Value} {w : World} {v : Value} {xs : List α} (h : Own E sz enc B w v xs) : Own E sz enc B w.drew v xs := h.keep fun g _ _ => rfl
theorem below_up {a w : World} (h : Below a.heap.size a w) (o : Obj) : Below a.heap.size a (w.alloc o) := h.alloc h.size o
theorem meet_end3 {K J : Act → World → Prop} {Q : Exit → Act → World → Prop} {a : Act} {w : World} (h : ∀ a' w', Met J a' w' → K a' w') (h2 : J a w) : Exit.then K Q Exit.normal a w := h _ _ h2

set_option maxRecDepth 100000 in
set_option maxHeartbeats 8000000 in
theorem mnew_ok (c : Cfg) (a : Option Addr) (cap : Nat) (w : World) (hs : Sl 3 viewL w a c.vs) (hl : c.vs.length ≤ 1000000000) (hr : c.right = true) :
    Calls Try.prog 9 #[cfgV c a cap] w fun e w' => ∃ B, e = .returned (.tuple #[.pointer (some ⟨B.mp, 0, none⟩), .int .i64 0]) ∧ IsModel w' B (Mst.new c) ∧ Below w.heap.size w w' ∧ ∀ g, B.lab g ≠ .no → w.heap.size ≤ g := by
  have hok := Cfg.right_ok hr
  have hb0 : Below w.heap.size w (w.alloc (cfgO c a cap)) := (Below.refl _ _).alloc (Nat.le_refl _) _
  have hri := right_any c a cap (w.alloc (cfgO c a cap)) (hs.below hb0) hl
  rw [hr] at hri
  have hf0 : (w.alloc (cfgO c a cap)).heap[w.heap.size]? = some (cfgO c a cap) := blk_at rfl
  have hz0 : w.heap.size < (w.alloc (cfgO c a cap)).heap.size := by simp
  obtain ⟨va, vo, rfl, hva⟩ : ∃ va vo, a = some ⟨va, vo, none⟩ ∧ va < w.heap.size := by
    obtain ⟨va, vo, e, h, _⟩ := hs.at3 (i := 0) (by have := hok.vlo; omega) rfl
    exact ⟨va, vo, e, h⟩
  have hcl := fun W (hW : Below w.heap.size w W) => cloneViews_any va vo cap c.vs W (hs.below hW) hl
  obtain ⟨mo, hmo⟩ := make_own' sz_calls (fun _ => rfl) c.op.toNat (by have := hok.op; omega) (by decide)
  have hon : ((c.op.toNat : Nat) : Int) = c.op := by have := hok.op; omega
  rw [hon] at hmo
  have hmk := fun W => marksNew_any c.so W hok.so.1 hok.so.2
  have Hb0 := Lib.hid hb0
  have Hok := Lib.hid hok
  have Hf0 := Lib.hid hf0
  have Hcl := Lib.hid hcl
  have Hmo := Lib.hid hmo
  have Hmk := Lib.hid hmk
  have Hon := Lib.hid hon
  clear hb0 hs hr hok hf0 hcl hmo hmk hon
  obtain ⟨vs, so, op, sh, sl, bx, ad, pi, ch, fr, inn, out⟩ := c
  dsimp only at *
  go_enter Try.func9, Try.ntmps9
  go_wp2_with fail
  refine hri.mono ?_
  rintro e w1 ⟨rfl, hb1⟩
  have Hb1 := Lib.hid (Hb0.out.trans (hb1.mono Hb0.out.size))
  have hf1 := (hb1.block _ hz0).trans Hf0.out
  have q0 := cell_blk hf1 0
  have Hf1 := Lib.hid hf1
  clear hb1 hri hf1
  simp at q0
  go_wp2_with fail
  refine (Hcl.out _ Hb1.out).mono ?_
  rintro e w2 ⟨v2, rfl, hown, hb2⟩
  obtain ⟨o2, cap2, rfl, _, _, _, _⟩ := hown.sl fun _ => rfl
  obtain ⟨vb, rfl, hvb1, hvb2⟩ := hown.pos (by have := Hok.out.vlo; exact this)
  have hz1 : w.heap.size < w1.heap.size := lt_of_block Hf1.out
  have f2 := (hb2.block _ hz1).trans Hf1.out
  have rf := frozen_blk f2
  have p0 := cell_blk f2 0
  simp at p0
  have f3 : (w2.setCell ⟨w.heap.size, 0, none⟩ (.slice (some ⟨vb, 0, none⟩) vs.length cap2)).heap[w.heap.size]? = some (.cells #[.slice (some ⟨vb, 0, none⟩) vs.length cap2, .int .i64 so, .int .i64 op, .int .i64 sh, .int .i64 sl, .int .i64 bx, .int .i64 ad, .int .i64 pi, .int .i64 ch, .int .i64 fr, .int .i64 inn, .int .i64 out] 26 (0, 0)) := set_obj f2 0 _
  have hb3 : Below w.heap.size w (w2.setCell ⟨w.heap.size, 0, none⟩ (.slice (some ⟨vb, 0, none⟩) vs.length cap2)) := (Hb1.out.trans (hb2.mono Hb1.out.size)).setCell (Nat.le_refl _) _
  have ho3 : Own 76 3 viewL 0 (w2.setCell ⟨w.heap.size, 0, none⟩ (.slice (some ⟨vb, 0, none⟩) vs.length cap2)) (.slice (some ⟨vb, 0, none⟩) vs.length cap2) vs :=
    (hown.mono (Nat.zero_le _)).keep fun g hg _ => by
      have e : vb = g := by simpa [Value.ownBlock] using hg
      exact Below.heap_setCell _ _ _ _ (by show g ≠ w.heap.size; omega)
  have hv3 : vb < (w2.setCell ⟨w.heap.size, 0, none⟩ (.slice (some ⟨vb, 0, none⟩) vs.length cap2)).heap.size := by simp; exact hvb2
  have Hf3 := Lib.hid f3
  have Hb3 := Lib.hid hb3
  have Ho3 := Lib.hid ho3
  have Hv3 := Lib.hid hv3
  clear f3 hb3 ho3 hv3 f2 hown hb2 q0
  go_upto_region 4 with fail
  generalize hW3 : w2.setCell ⟨w.heap.size, 0, none⟩ (.slice (some ⟨vb, 0, none⟩) vs.length cap2) = W3 at *
  clear hW3 p0 rf
  have kN : ∀ W, Below W3.heap.size W3 W → NewA w.heap.size (.slice (some ⟨vb, 0, none⟩) vs.length cap2) so op sh sl bx ad pi ch fr inn out W3 W := by
    intro W hW
    have f := (hW.block _ (lt_of_block Hf3.out)).trans Hf3.out
    exact ⟨hW, cell_blk f 0, cell_blk f 1, cell_blk f 2, cell_blk f 3, cell_blk f 4, cell_blk f 5, cell_blk f 6, cell_blk f 7, cell_blk f 8, cell_blk f 9, cell_blk f 10, cell_blk f 11⟩
  go_cut [4] from 14 to 22 (fun s4 wx => ∃ mp bt bs bh ta, s4 = .pointer (some ⟨mp, 0, none⟩) ∧ NewP ⟨vs, so, op, sh, sl, bx, ad, pi, ch, fr, inn, out⟩ op.toNat (some ⟨vb, 0, none⟩) cap2 W3 mp bt bs bh ta wx)
  case first =>
    have kND := kN _ (Below.refl _ _).drew
    have hm1 : ∀ W : World, (Instr.makeMap 83 none).run Try.prog W = .ok (.map (some W.heap.size)) (W.alloc (.map #[] 0)) := fun W => rfl
    have hm2 : ∀ W : World, (Instr.makeMap 84 none).run Try.prog W = .ok (.map (some W.heap.size)) (W.alloc (.map #[] 0)) := fun W => rfl
    have hm3 : ∀ W : World, (Instr.makeMap 85 none).run Try.prog W = .ok (.map (some W.heap.size)) (W.alloc (.map #[] 0)) := fun W => rfl
    have hms := fun W => (Hmo.out W).1
    go_region_held3 (fun W => NewA w.heap.size (.slice (some ⟨vb, 0, none⟩) vs.length cap2) so op sh sl bx ad pi ch fr inn out W3 W) (first | exact kND | assumption | exact kN _ (Below.alloc (And.left (by assumption)) (Below.size (And.left (by assumption))) _)) (fail)
    all_goals (
      refine meet_end3 (by assumption) ?_
      go_step
      (repeat apply Exists.intro)
      refine ⟨?_, rfl⟩
      refine ⟨_, _, _, _, _, rfl, ⟨blk_at (by simp), ?_, ?_, ?_, ?_, ⟨by omega, by omega, by omega⟩, ⟨by omega, by omega, by omega, by omega, by omega⟩, ?_⟩⟩
      · refine drew_blk ?_
        repeat (first | (refine blk_at ?_; simp; done) | (rw [blk_old (by simp; try omega)]))
      · refine drew_blk ?_
        repeat (first | (refine blk_at ?_; simp; done) | (rw [blk_old (by simp; try omega)]))
      · refine drew_blk ?_
        repeat (first | (refine blk_at ?_; simp; done) | (rw [blk_old (by simp; try omega)]))
      · refine own_drew ?_
        repeat (first | (refine told_at (op := op) (mo := 0) (Hmo.out _).2 _ ?_; simp; done) | refine Own.alloc ?_ _)
      · refine Below.drew ?_
        repeat (first | exact Below.refl _ _ | refine below_up ?_ _))
  case rest =>
    obtain ⟨mp, bt, bs, bh, ta, rfl, hN⟩ := hcut
    have hP := hN.parts rfl (Ho3.out.below hN.bel) Hv3.out
    have hbc := Hb3.out.trans (hN.bel.mono Hb3.out.size)
    have hbx := (hN.bel.block _ (lt_of_block Hf3.out)).trans Hf3.out
    have hge := hN.ge
    have hw3 : w.heap.size < W3.heap.size := lt_of_block Hf3.out
    have HP := Lib.hid hP
    have Hbc := Lib.hid hbc
    have Hbx := Lib.hid hbx
    have q2 := cell_blk hbx 2
    simp at q2
    clear hP hbc hbx hN kN
    have hop := Hok.out.op
    have hz3 := Hbc.out.size
    have hmp9 : w.heap.size ≤ mp := by omega
    have hv0 : w.heap.size < vb := by omega
    have hlab : ∀ g, labN mp bt bs bh ta vb g ≠ .no → w.heap.size < g := by
      intro g hg
      rcases labN_no hg with rfl | rfl | rfl | rfl | rfl | rfl <;> omega
    have Hlab := Lib.hid hlab
    clear hlab hge hw3 Hb3 Ho3 Hf3 hv0
    go_wp2_with fail
    go_loopg [25] op.toNat (fun g s25 wr => ∃ (j : Nat) (B : MB), j + g = op.toNat ∧ s25 = .int .i64 j ∧ Parts wr B (Mst.newJ ⟨vs, so, op, sh, sl, bx, ad, pi, ch, fr, inn, out⟩ j) ∧ B.mp = mp ∧ (∀ g, B.lab g ≠ .no → w.heap.size < g) ∧
      wr.heap[w.heap.size]? = some (.cells #[.slice (some ⟨vb, 0, none⟩) vs.length cap2, .int .i64 so, .int .i64 op, .int .i64 sh, .int .i64 sl, .int .i64 bx, .int .i64 ad, .int .i64 pi, .int .i64 ch, .int .i64 fr, .int .i64 inn, .int .i64 out] 26 (0, 0)) ∧ Below w.heap.size w wr)
    case atStart => exact ⟨0, _, by omega, rfl, HP.out, rfl, Hlab.out, Hbx.out, Hbc.out⟩
    case round =>
      obtain ⟨j, B, hj, rfl, hP, rfl, hlb, hbx, hb⟩ := hrel
      have Hj := Lib.hid hj
      have HPj := Lib.hid hP
      have Hlb := Lib.hid hlb
      have Hbj := Lib.hid hb
      have hbxl := lt_of_block hbx
      have d1 := cell_blk hbx 1
      simp at d1
      have Hbxj := Lib.hid hbx
      clear hj hP hlb hb hbx q2
      by_cases hlt : (j : Int) < op
      · go_wp2_with fail
        refine (Hmk.out wr).mono ?_
        rintro e w4 ⟨rfl, hmk4, hb4⟩
        have hP4 := HPj.out.below hb4
        have hmsl : (Mst.newJ ⟨vs, so, op, sh, sl, bx, ad, pi, ch, fr, inn, out⟩ j).ms.length = j := List.length_replicate
        have hm4 := hP4.obj.obj
        rw [hmsl] at hm4
        have htl : (Mst.newJ ⟨vs, so, op, sh, sl, bx, ad, pi, ch, fr, inn, out⟩ j).told.length = op.toNat := List.length_replicate
        rw [htl] at hm4
        have c13 := cell_blk hm4 13
        simp at c13
        have hown4 := hP4.marks.own
        rw [hmsl] at hown4
        have hlm := hP4.marks.len
        rw [hmsl] at hlm
        have hoL := hP4.marks.lb
        rw [hmsl] at hoL
        have hownA := hown4.alloc (.cells #[.pointer (some ⟨wr.heap.size + 1, 0, none⟩)] 61)
        have h9 := sl_new (sz := 1) (enc := ptrL) ((wr.heap.size + 1, wr.heap.size) : Nat × Nat) w4 61 (cs := #[.pointer (some ⟨wr.heap.size + 1, 0, none⟩)]) rfl
        have hz4 := hb4.size
        have HP4 := Lib.hid hP4
        have HownA := Lib.hid hownA
        have Hm4 := Lib.hid hm4
        have Hmk4 := Lib.hid hmk4
        have Hb4 := Lib.hid hb4
        have HoL := Lib.hid hoL
        have Hlm := Lib.hid hlm
        have H9 := Lib.hid h9
        clear hP4 hownA hm4 hmk4 hb4 hown4 hmsl htl hoL hlm h9
        go_wp2_with (at_builtin; (refine wpList_app3 st_ptr rfl _ _ rfl ptrL (fun _ => rfl) cells1_ptr 0 _ B.mks rfl HownA.out w4.heap.size 0 1 1 [(wr.heap.size + 1, wr.heap.size)] rfl rfl H9.out ?c2 ?c3 ?c4 ?_))
        case c2 => have := Hlm.out; simp; have := Hok.out.op; omega
        case c3 => decide
        case c4 => simp
        intro v' w5 hown' hgr hob
        obtain ⟨o5, cap5, rfl, _, _, _, _⟩ := hown'.sl (fun _ => rfl)
        have hl5 : (B.mks ++ [(wr.heap.size + 1, wr.heap.size)]).length = j + 1 := by rw [List.length_append, Hlm.out]; rfl
        rw [hl5] at hown' hob ⊢
        have hmk4 := Hmk4.out.lt
        have hmpl : B.mp < wr.heap.size := HPj.out.lt _ (by rw [HPj.out.obj.lb]; simp)
        have hownlt : ∀ g, some g = (Value.slice B.ma j B.mcap).ownBlock → B.lab g = .marks ∧ g < wr.heap.size := fun g e => ⟨HoL.out g e.symm, HPj.out.lt g (by rw [HoL.out g e.symm]; simp)⟩
        have hmpn : some B.mp ≠ (Value.slice B.ma j B.mcap).ownBlock := fun e => by
          have h1 := (hownlt _ e).1
          rw [HPj.out.obj.lb] at h1
          cases h1
        have hg5 : ∀ g, g < w4.heap.size → some g ≠ (Value.slice B.ma j B.mcap).ownBlock → w5.heap[g]? = w4.heap[g]? := fun g hg hn => (hgr.block g (by simp; omega) hn).trans (blk_old hg)
        have hm5 := (hg5 B.mp (by omega) hmpn).trans Hm4.out
        have rf5 := frozen_blk hm5
        have c135 := cell_blk hm5 13
        simp at c135
        have hb5 : Below w.heap.size w w5 := ((Hbj.out.trans (Hb4.out.mono Hbj.out.size)).alloc (by omega) _).grown hgr (by simp; omega) (fun k hk => by have := Hlb.out k (by rw [(hownlt k hk.symm).1]; simp); omega)
        have hz5 : w4.heap.size + 1 ≤ w5.heap.size := by have := hgr.size; simpa using this
        have Hg5 := Lib.hid hg5
        have Hm5 := Lib.hid hm5
        have Hown5 := Lib.hid hown'
        have Hob5 := Lib.hid hob
        have Hb5 := Lib.hid hb5
        have Hownlt := Lib.hid hownlt
        clear hg5 hm5 hown' hob hb5 hownlt hgr hl5
        go_wp2_with fail
        go_roundg (gk - 1)
        case measure => have := Hj.out; omega
        case rel =>
          have hkf : ∀ g, g < w4.heap.size → g ≠ B.mp → some g ≠ (Value.slice B.ma j B.mcap).ownBlock → (w5.setCell ⟨B.mp, 13, none⟩ (.slice o5 (j + 1) cap5)).heap[g]? = w4.heap[g]? := fun g hg hn hn2 => (Below.heap_setCell _ _ _ _ hn).trans (Hg5.out g hg hn2)
          have hno : ∀ g, wr.heap.size ≤ g → B.lab g = .no := fun g hg => by
            refine Decidable.byContradiction fun hn => ?_
            have := HPj.out.lt g hn
            omega
          have hnow : ∀ g, wr.heap.size ≤ g → some g ≠ (Value.slice B.ma j B.mcap).ownBlock := fun g hg e => by have := (Hownlt.out g e).2; omega
          have hlbm : ∀ g, labG B.lab j (wr.heap.size + 1) wr.heap.size (.slice o5 (j + 1) cap5) g ≠ .no → w.heap.size < g := by
            intro g hg
            by_cases e1 : g = wr.heap.size + 1
            · omega
            · by_cases e2 : g = wr.heap.size
              · omega
              · by_cases e3 : (Value.slice o5 (j + 1) cap5).ownBlock = some g
                · rcases Hob5.out with h5 | h5
                  · rw [e3] at h5
                    exact Hlb.out g (by rw [(Hownlt.out g h5).1]; simp)
                  · rw [e3] at h5
                    have : g = w4.heap.size + 1 := by simpa using h5
                    omega
                · refine Hlb.out g (fun e => hg ?_)
                  unfold labG
                  rw [if_neg e1, if_neg e2, if_neg e3]
                  exact e
          refine ⟨j + 1, { B with ma := o5, mcap := cap5, mks := B.mks ++ [(wr.heap.size + 1, wr.heap.size)], lab := labG B.lab j (wr.heap.size + 1) wr.heap.size (.slice o5 (j + 1) cap5) }, by have := Hj.out; omega, by go_num, ?_, rfl, hlbm, ?_, ?_⟩
          · refine HP4.out.grow (wr.heap.size + 1) wr.heap.size (hno _ (by omega)) (hno _ (by omega)) (by omega) (Hmk4.out.keep (hkf _ hmk4.1 (by omega) (hnow _ (by omega))) (hkf _ hmk4.2 (by omega) (hnow _ (by omega)))) o5 cap5 ?_ ?_ (set_obj Hm5.out 13 _) ?_ ?_
            · refine Hown5.out.keep fun g hg _ => Below.heap_setCell _ _ _ _ ?_
              rcases Hob5.out with h5 | h5
              · rw [hg] at h5
                exact fun e => hmpn (by have e' : g = B.mp := e; rw [← e']; exact h5)
              · rw [hg] at h5
                have : g = w4.heap.size + 1 := by simpa using h5
                show g ≠ B.mp
                omega
            · rcases Hob5.out with h5 | h5
              · exact .inl h5
              · refine .inr ⟨w4.heap.size + 1, by simpa using h5, hno _ (by omega), by omega, by omega⟩
            · exact fun g h1 h2 h3 => hkf g (HP4.out.lt g h1) (fun e => h2 (by rw [e]; exact HP4.out.obj.lb)) (fun e => h3 (Hownlt.out g e).1)
            · have : (w5.setCell ⟨B.mp, 13, none⟩ (.slice o5 (j + 1) cap5)).heap.size = w5.heap.size := by simp
              omega
          · refine (hkf w.heap.size (by omega) (fun e => by have := Hlb.out B.mp (by rw [HPj.out.obj.lb]; simp); omega) (fun e => by have := Hlb.out w.heap.size (by rw [(Hownlt.out _ e).1]; simp); omega)).trans ((Hb4.out.block _ hbxl).trans Hbxj.out)
          · exact Hb5.out.setCell (by show w.heap.size ≤ B.mp; omega) _
      · have hjo : j = op.toNat := by have := Hj.out; omega
        have hP9 := HPj.out
        rw [hjo] at hP9
        have HP9 := Lib.hid hP9
        clear hP9
        go_wp2_with fail
        go_ret2
        exact ⟨B, rfl, HP9.out.model (Mst.new_inv Hok.out), Hbj.out, fun g hg => Nat.le_of_lt (Hlb.out g hg)⟩
end Go.Proofs.Ytaicecnfodhlcaa
