/- New: the parts of a model that is being made. -/
import Derived.Test.YtaicecnfodhlcaaMCfg
import Derived.Test.YtaicecnfodhlcaaMEventW
set_option linter.unusedVariables false
set_option linter.unusedSimpArgs false
namespace Go.Proofs.Ytaicecnfodhlcaa
open Go.RowKit Go.Deep

/-- IsModel, without what holds of the state itself. -/
structure Parts (w : World) (B : MB) (S : Mst) : Prop where
  obj : PObj w B S
  views : PViews w B S
  there : PThere w B S
  marks : PMarks w B S
  told : PTold w B S
  seals : PSeals w B S
  holds : PHolds w B S
  lt : ∀ g, B.lab g ≠ .no → g < w.heap.size
theorem Parts.keep {w w' : World} {B : MB} {S : Mst} (h : Parts w B S) (hs : w.heap.size ≤ w'.heap.size) (hk : ∀ g, B.lab g ≠ .no → w'.heap[g]? = w.heap[g]?) : Parts w' B S :=
  ⟨h.obj.keep fun g e => hk g (by rw [e]; simp), h.views.keep fun g e => hk g (by rw [e]; simp), h.there.keep fun g e => hk g (by rw [e]; simp),
    h.marks.keep fun g e => hk g (by rcases e with e | ⟨i, e⟩ | ⟨i, e⟩ <;> (rw [e]; simp)), h.told.keep fun g e => hk g (by rcases e with e | ⟨i, e⟩ <;> (rw [e]; simp)),
    h.seals.keep fun g e => hk g (by rcases e with e | ⟨i, e⟩ <;> (rw [e]; simp)), h.holds.keep fun g e => hk g (by rcases e with e | ⟨i, e⟩ <;> (rw [e]; simp)), fun g e => Nat.lt_of_lt_of_le (h.lt g e) hs⟩
theorem Parts.below {w w' : World} {B : MB} {S : Mst} (h : Parts w B S) (k : Below w.heap.size w w') : Parts w' B S := h.keep k.size fun g e => k.block g (h.lt g e)
theorem Parts.model {w : World} {B : MB} {S : Mst} (h : Parts w B S) (hi : S.Inv) : IsModel w B S := ⟨h.obj, h.views, h.there, h.marks, h.told, h.seals, h.holds, hi, h.lt⟩

/-- A machine that is new, j of its operators laid. -/
def Mst.newJ (c : Cfg) (j : Nat) : Mst := { cfg := c, ms := List.replicate j (List.replicate c.so.toNat noMark), told := List.replicate c.op.toNat [], L := [], seals := fun _ => none, holds := fun _ _ => false, now := 1, cnt := ⟨0, 0, 0, 0⟩ }
def Mst.new (c : Cfg) : Mst := Mst.newJ c c.op.toNat
theorem inR_iff {n lo hi : Int} : inR n lo hi = true ↔ lo ≤ n ∧ n ≤ hi := by simp [inR]
theorem Cfg.right_ok {c : Cfg} (h : c.right = true) : c.Ok := by
  unfold Cfg.right Cfg.nums at h
  simp only [Bool.and_eq_true, inR_iff] at h
  obtain ⟨hv, ⟨⟨⟨⟨⟨⟨⟨⟨⟨⟨⟨h0, h1⟩, h2⟩, h3⟩, h4⟩, h5⟩, h6⟩, h7⟩, h8⟩, h9⟩, h10⟩, h11⟩⟩ := h
  exact ⟨by omega, by omega, List.all_eq_true.1 hv, h1, h2, h7⟩
theorem Mst.new_inv {c : Cfg} (h : c.Ok) : (Mst.new c).Inv := by
  have h1 := h.op
  have h2 := h.so
  refine ⟨h, ?_, ?_, ?_, List.Pairwise.nil, fun r hr => (by cases hr), ⟨(by decide : (1 : Int) ≤ 1), (by decide : (1 : Int) ≤ 1099511627776)⟩, fun s e hh => (by cases hh), fun e => ⟨fun hh => (by cases hh), fun ⟨s, hs⟩ => (by cases hs)⟩, fun e L hh => (by cases hh), ⟨(by decide : (0 : Int) ≤ 0), (by decide : (0 : Int) ≤ 0), (by decide : (0 : Int) ≤ 0), (by decide : (0 : Int) ≤ 0)⟩, ?_, ?_⟩
  · show ((List.replicate c.op.toNat _).length : Int) = c.op
    rw [List.length_replicate]; omega
  · intro l hl
    obtain rfl := List.eq_of_mem_replicate hl
    rw [List.length_replicate]
    show ((c.so.toNat : Nat) : Int) = c.so
    omega
  · show (List.replicate c.op.toNat _).length = (List.replicate c.op.toNat _).length
    rw [List.length_replicate, List.length_replicate]
  · intro i hi
    have hi' : i < c.op.toNat := by have : i < (List.replicate c.op.toNat (List.replicate c.so.toNat noMark)).length := hi; simpa using this
    show (List.replicate c.op.toNat (List.replicate c.so.toNat noMark)).getD i [] = ((List.replicate c.op.toNat ([] : List (Int × Int))).getD i []).foldl riseL (List.replicate c.so.toNat noMark)
    simp [List.getD, List.getElem?_replicate, hi']
  · intro l hl c hc
    obtain rfl := List.eq_of_mem_replicate hl
    cases hc
/-- make([]T, n), the same block wherever it is made. -/
theorem make_own' {α : Type} {P : Program} {t e sz bytes : Nat} {enc : α → List Value} {d : α} (K : SlZ P t e sz bytes (enc d)) (hs : ∀ x, (enc x).length = sz) (n : Nat) (hn : n ≤ 1000000000) (hby : bytes ≤ 1024) :
    ∃ o, ∀ w : World, (Instr.makeSlice t (.int .i64 (n : Int)) (.int .i64 (n : Int))).run P w = .ok (.slice (some ⟨w.heap.size, 0, none⟩) n n) (w.alloc o) ∧ Own e sz enc w.heap.size (w.alloc o) (.slice (some ⟨w.heap.size, 0, none⟩) n n) (List.replicate n d) := by
  obtain ⟨hu, hp, hl, i, z, h1, h2, h3, h4, h5⟩ := K
  have hb : i.bytes * n ≤ 1024 * 1000000000 := Nat.mul_le_mul (by omega) hn
  refine ⟨.cells (madeCells z.cells (n * sz)) e, fun w => ?_⟩
  have hr := run_make (P := P) w t e i z hu h1 h2 .i64 .i64 n n (by omega) (Int.le_refl _) (by rw [← Int.natCast_mul]; omega) (by omega)
  simp only [Int.toNat_natCast, h3] at hr
  refine ⟨hr, ?_⟩
  refine ⟨flat_length hs _, .inr ⟨w.heap.size, n, madeCells z.cells (n * sz), by simp, Nat.le_refl _, ?_, by simp, by unfold maxLen; omega, by simp [madeCells], ?_⟩⟩
  · show (w.heap.push _)[w.heap.size]? = _
    simp
  · rw [madeCells_flat h5 hs hp]
    rw [List.length_replicate]
    exact List.take_of_length_le (by rw [flat_length hs]; simp)
theorem sz_calls : SlZ Try.prog 86 106 1 24 (sliceL (default : Slc)) := SlZ.mk' (z := .slice none 0 0) Try.underlying86 (by decide) (by kernel_rfl) rfl rfl
theorem st_ptr : SlT Try.prog 60 61 1 8 := SlT.mk' (z := .pointer none) Try.underlying60 (by decide) (by kernel_rfl) rfl
theorem cells1_ptr : Cells1 ptrL := fun x u hu => by simp at hu; subst hu; rfl

/-- What lies behind region 4. -/
structure NewP (c : Cfg) (n : Nat) (va : Option Addr) (vcap : Nat) (W : World) (mp bt bs bh ta : Nat) (wx : World) : Prop where
  obj : wx.heap[mp]? = some (.cells #[.slice va c.vs.length vcap, .int .i64 c.so, .int .i64 c.op, .int .i64 c.sh, .int .i64 c.sl, .int .i64 c.bx, .int .i64 c.ad, .int .i64 c.pi, .int .i64 c.ch, .int .i64 c.fr, .int .i64 c.inn, .int .i64 c.out,
    .map (some bt), .slice none 0 0, .slice (some ⟨ta, 0, none⟩) n n, .int .i64 1, .map (some bs), .map (some bh), .int .i64 0, .int .i64 0, .int .i64 0, .int .i64 0, .int .i64 0, .int .i64 0] 88 (0, 0))
  there : wx.heap[bt]? = some (.map #[] 0)
  seals : wx.heap[bs]? = some (.map #[] 0)
  holds : wx.heap[bh]? = some (.map #[] 0)
  told : Own 106 1 sliceL 0 wx (.slice (some ⟨ta, 0, none⟩) n n) (List.replicate n default)
  ne : bs ≠ bt ∧ bh ≠ bt ∧ bh ≠ bs
  ge : W.heap.size ≤ mp ∧ W.heap.size ≤ bt ∧ W.heap.size ≤ bs ∧ W.heap.size ≤ bh ∧ W.heap.size ≤ ta
  bel : Below W.heap.size W wx
def labN (mp bt bs bh ta vb : Nat) : Nat → Lbl := fun g => if g = mp then .obj else if g = bt then .there else if g = bs then .seals else if g = bh then .holds else if g = ta then .toldO else if g = vb then .views else .no
theorem labN_no {mp bt bs bh ta vb g : Nat} (h : labN mp bt bs bh ta vb g ≠ .no) : g = mp ∨ g = bt ∨ g = bs ∨ g = bh ∨ g = ta ∨ g = vb := by
  unfold labN at h
  repeat' split at h
  all_goals first | omega | exact absurd rfl h
theorem NewP.parts {c : Cfg} {n vb vcap : Nat} {W wx : World} {mp bt bs bh ta : Nat} (h : NewP c n (some ⟨vb, 0, none⟩) vcap W mp bt bs bh ta wx) (hn : c.op.toNat = n) (hv : Own 76 3 viewL 0 wx (.slice (some ⟨vb, 0, none⟩) c.vs.length vcap) c.vs) (hvb : vb < W.heap.size) :
    Parts wx ⟨mp, bt, bs, bh, some ⟨vb, 0, none⟩, vcap, none, 0, some ⟨ta, 0, none⟩, n, [], List.replicate n default, fun _ => 0, fun _ => none, labN mp bt bs bh ta vb⟩ (Mst.newJ c 0) := by
  subst hn
  obtain ⟨h1, h2, h3, h4, h5, ⟨n1, n2, n3⟩, ⟨g1, g2, g3, g4, g5⟩, hb⟩ := h
  have l1 := lt_of_block h1
  have l2 := lt_of_block h2
  have l3 := lt_of_block h3
  have l4 := lt_of_block h4
  have l5 : ta < wx.heap.size := (h5.ge rfl).2
  have l6 : vb < wx.heap.size := (hv.ge rfl).2
  have ne1 : ∀ b, wx.heap[b]? = some (.map #[] 0) → b ≠ mp := by
    rintro b hb rfl
    rw [h1] at hb; cases hb
  have ne2 : ta ≠ mp ∧ ta ≠ bt ∧ ta ≠ bs ∧ ta ≠ bh := by
    obtain ⟨_, hh⟩ := h5
    rcases hh with ⟨hh, _⟩ | ⟨g, cap, cur, hh, _, hblk, _⟩
    · cases hh
    · injection hh with hh1
      injection hh1 with hh1
      injection hh1 with hh1
      subst hh1
      refine ⟨?_, ?_, ?_, ?_⟩ <;> rintro rfl
      · rw [h1] at hblk; simp at hblk
      · rw [h2] at hblk; cases hblk
      · rw [h3] at hblk; cases hblk
      · rw [h4] at hblk; cases hblk
  have m2 := ne1 bt h2
  have m3 := ne1 bs h3
  have m4 := ne1 bh h4
  refine ⟨⟨?_, by simp [labN]⟩, ⟨hv, ?_⟩, ⟨⟨[], ⟨by simp, #[], 0, h2, by simp, by simp, by simp⟩, List.Perm.refl _⟩, by simp [labN, m2]⟩, ⟨Own.nil _ _ _ _ _, ?_, rfl, fun i h _ => absurd h (Nat.not_lt_zero _)⟩, ⟨?_, ?_, ?_, ?_⟩, ⟨by simp [labN, m3, n1], [], ⟨by simp, #[], 0, h3, by simp, by simp, by simp⟩, fun e L he => (by cases he), (fun e _ => by simp)⟩,
    ⟨by simp [labN, m4, n2, n3], [], ⟨by simp, #[], 0, h4, by simp, by simp, by simp⟩, fun s b he => (by cases he), fun s _ => ⟨by simp, fun e => rfl⟩⟩, ?_⟩
  · show wx.heap[mp]? = some (.cells #[_, _, _, _, _, _, _, _, _, _, _, _, _, .slice none 0 0, .slice _ (List.replicate c.op.toNat ([] : List (Int × Int))).length _, _, _, _, _, _, _, _, _, _] _ _)
    rw [List.length_replicate]
    exact h1
  · intro g hg
    have e : vb = g := by simpa [Value.ownBlock] using hg
    subst e
    have k1 : vb ≠ mp := by omega
    have k2 : vb ≠ bt := by omega
    have k3 : vb ≠ bs := by omega
    have k4 : vb ≠ bh := by omega
    have k5 : vb ≠ ta := by omega
    simp [labN, k1, k2, k3, k4, k5]
  · intro g hg; cases hg
  · show Own _ _ _ _ _ (.slice _ (List.replicate c.op.toNat ([] : List (Int × Int))).length _) _
    rw [List.length_replicate]
    exact h5
  · intro g hg
    have e : ta = g := by simpa [Value.ownBlock] using hg
    subst e
    simp [labN, ne2]
  · show (List.replicate c.op.toNat (default : Slc)).length = (List.replicate c.op.toNat ([] : List (Int × Int))).length
    rw [List.length_replicate, List.length_replicate]
  · intro i h h2
    have e1 : (List.replicate c.op.toNat (default : Slc))[i] = default := by simp
    have e2 : (Mst.newJ c 0).told[i] = [] := by simp [Mst.newJ]
    refine ⟨?_, ?_⟩
    · show Own _ _ _ _ _ ((List.replicate c.op.toNat (default : Slc))[i]).v _
      rw [e1, e2]
      exact Own.nil _ _ _ _ _
    · show ∀ g, (((List.replicate c.op.toNat (default : Slc))[i]).v).ownBlock = some g → _
      rw [e1]
      intro g hg
      cases hg
  · intro g hg
    rcases labN_no hg with rfl | rfl | rfl | rfl | rfl | rfl <;> assumption
/-- The builtin append of elements onto a slice of the call's own, with where it lies. -/
theorem wpList_app3 {α : Type} {P : Program} {ops : Array Oper} {Q : Exit → Act → World → Prop} {a : Act} {w : World} {rest : List Oper} {o : Oper} {t e sz bytes : Nat} (K : SlT P t e sz bytes)
    (hgd : o.guard = none) (s x : Operand) (ho : o.op = .call { callee := .builtin .append, args := #[s, x], argTypes := #[t, t] })
    (enc : α → List Value) (hz : ∀ x, (enc x).length = sz) (h1 : Cells1 enc) (B : Nat) (v : Value) (xs : List α) (hs : a.eval s = v) (hown : Own e sz enc B w v xs)
    (b off : Nat) (m c : Nat) (ys : List α) (hx : a.eval x = .slice (some ⟨b, off, none⟩) m c) (hm : m = ys.length) (hsl : Sl sz enc w (some ⟨b, off, none⟩) ys) (hmax : xs.length + ys.length ≤ 1000000000) (hby : bytes ≤ 1024) (hB : B ≤ w.heap.size)
    (h : ∀ v' w', Own e sz enc B w' v' (xs ++ ys) → w.grownBy w' v.ownBlock → (v'.ownBlock = v.ownBlock ∨ v'.ownBlock = some w.heap.size) → wpList P ops Q rest (a.put o.dst v') w') : wpList P ops Q (o :: rest) a w := by
  subst hm
  obtain ⟨ht, hsz, i, z, hi, hz0, hsize, hbytes, hzs⟩ := K
  have hb : (xs.length + ys.length) * bytes ≤ 140737488355328 := Nat.le_trans (Nat.mul_le_mul hmax hby) (by omega)
  have hm : xs.length + ys.length ≤ maxLen := by unfold maxLen; omega
  obtain ⟨v', w', hr, h2, h3, _, h4⟩ := run_append_own_at (P := P) w B t o.type e i z sz bytes ht hi hz0 hsize hbytes hzs hsz v xs.length (xs.flatMap enc) hown ⟨b, off, none⟩ ys.length c (ys.flatMap enc) (flat_length hz ys) (hsl.flat hz) (fun u hu => by obtain ⟨y, _, hy⟩ := List.mem_flatMap.1 hu; exact h1 y u hy) hm hb hB
  refine wpList_plain hgd fun K' hK => ?_
  unfold Oper.wp execOp
  simp only [ho, resolve, invoke, builtin, Sem.run_bind, Sem.run_pure, Result.andThen_ok, List.map_toArray, List.map_cons, List.map_nil, hs, hx, hr]
  refine hK _ _ (h v' w' ?_ h3 h4)
  unfold Own; simpa using h2
theorem told_at {n mo : Nat} {o : Obj} {W : World} {op : Int} (h : Own 106 1 sliceL W.heap.size (W.alloc o) (.slice (some ⟨W.heap.size, 0, none⟩) n n) (List.replicate n default)) (k : Nat) (hk : k = W.heap.size) : Own 106 1 sliceL 0 (W.alloc o) (.slice (some ⟨k, 0, none⟩) n n) (List.replicate n default) := by
  subst hk; exact h.mono (Nat.zero_le _)
def labG (lab : Nat → Lbl) (j bm bl : Nat) (v : Value) : Nat → Lbl := fun g => if g = bm then .mobj j else if g = bl then .mrow j else if v.ownBlock = some g then .marks else lab g
/-- One more operator's marks are laid. -/
theorem Parts.grow {w w' : World} {B : MB} {c : Cfg} {j : Nat} (h : Parts w B (Mst.newJ c j)) (bm bl : Nat) (hbm : B.lab bm = .no) (hbl : B.lab bl = .no) (hne : bl ≠ bm) (hmk : IsMarks w' bm bl (List.replicate c.so.toNat noMark)) (o5 : Option Addr) (cap5 : Nat)
    (hown : Own 61 1 ptrL 0 w' (.slice o5 (j + 1) cap5) (B.mks ++ [(bm, bl)])) (hob : (Value.slice o5 (j + 1) cap5).ownBlock = (Value.slice B.ma j B.mcap).ownBlock ∨ ∃ x, (Value.slice o5 (j + 1) cap5).ownBlock = some x ∧ B.lab x = .no ∧ x ≠ bm ∧ x ≠ bl)
    (hobj : w'.heap[B.mp]? = some (.cells #[.slice B.av c.vs.length B.vcap, .int .i64 c.so, .int .i64 c.op, .int .i64 c.sh, .int .i64 c.sl, .int .i64 c.bx, .int .i64 c.ad, .int .i64 c.pi, .int .i64 c.ch, .int .i64 c.fr, .int .i64 c.inn, .int .i64 c.out,
      .map (some B.bt), .slice o5 (j + 1) cap5, .slice B.ta c.op.toNat B.tcap, .int .i64 1, .map (some B.bs), .map (some B.bh), .int .i64 0, .int .i64 0, .int .i64 0, .int .i64 0, .int .i64 0, .int .i64 0] 88 (0, 0)))
    (hk : ∀ g, B.lab g ≠ .no → B.lab g ≠ .obj → B.lab g ≠ .marks → w'.heap[g]? = w.heap[g]?) (hs : w.heap.size ≤ w'.heap.size) :
    Parts w' { B with ma := o5, mcap := cap5, mks := B.mks ++ [(bm, bl)], lab := labG B.lab j bm bl (.slice o5 (j + 1) cap5) } (Mst.newJ c (j + 1)) := by
  have hmsl : ∀ i, (Mst.newJ c i).ms.length = i := fun i => List.length_replicate
  have hlen := h.marks.len
  rw [hmsl] at hlen
  have hlbo := h.marks.lb
  rw [hmsl] at hlbo
  have hl : ∀ g, B.lab g ≠ .no → labG B.lab j bm bl (.slice o5 (j + 1) cap5) g = B.lab g := by
    intro g hg
    have e1 : g ≠ bm := fun e => hg (by rw [e]; exact hbm)
    have e2 : g ≠ bl := fun e => hg (by rw [e]; exact hbl)
    unfold labG
    rw [if_neg e1, if_neg e2]
    split
    · rename_i ho
      rcases hob with hob | ⟨x, hx, hx0, _⟩
      · rw [ho] at hob
        exact (hlbo g hob.symm).symm
      · rw [ho] at hx
        injection hx with e
        subst e
        exact absurd hx0 hg
    · rfl
  have hl' : ∀ g x, x ≠ .no → B.lab g = x → labG B.lab j bm bl (.slice o5 (j + 1) cap5) g = x := fun g x hx e => (hl g (by rw [e]; exact hx)).trans e
  refine ⟨⟨?_, hl' _ _ (by decide) h.obj.lb⟩, ?_, ?_, ⟨?_, ?_, ?_, ?_⟩, ?_, ?_, ?_, ?_⟩
  · show w'.heap[B.mp]? = some (.cells #[_, _, _, _, _, _, _, _, _, _, _, _, _, .slice o5 (Mst.newJ c (j + 1)).ms.length cap5, .slice _ (List.replicate c.op.toNat ([] : List (Int × Int))).length _, _, _, _, _, _, _, _, _, _] _ _)
    rw [hmsl, List.length_replicate]
    exact hobj
  · exact (h.views.keep fun g e => hk g (by rw [e]; simp) (by rw [e]; simp) (by rw [e]; simp)).cast rfl rfl rfl fun g e => hl' g _ (by decide) e
  · exact (h.there.keep fun g e => hk g (by rw [e]; simp) (by rw [e]; simp) (by rw [e]; simp)).cast rfl rfl fun g e => hl' g _ (by decide) e
  · show Own _ _ _ _ _ (.slice o5 (Mst.newJ c (j + 1)).ms.length cap5) _
    rw [hmsl]
    exact hown
  · show ∀ g, (Value.slice o5 (Mst.newJ c (j + 1)).ms.length cap5).ownBlock = some g → _
    rw [hmsl]
    intro g hg
    show labG B.lab j bm bl (.slice o5 (j + 1) cap5) g = .marks
    rcases hob with hob | ⟨x, hx, hx0, hx1, hx2⟩
    · rw [hg] at hob
      exact hl' g _ (by decide) (hlbo g hob.symm)
    · rw [hg] at hx
      injection hx with e
      subst e
      unfold labG
      rw [if_neg hx1, if_neg hx2, if_pos hg]
  · show (B.mks ++ [(bm, bl)]).length = (Mst.newJ c (j + 1)).ms.length
    rw [hmsl, List.length_append, hlen]
    rfl
  · intro i h1 h2
    have h1' : i < (B.mks ++ [(bm, bl)]).length := h1
    have hi : i < j + 1 := by rw [hmsl] at h2; exact h2
    have e2 : (Mst.newJ c (j + 1)).ms[i] = List.replicate c.so.toNat noMark := by simp [Mst.newJ]
    rw [e2]
    show IsMarks w' (B.mks ++ [(bm, bl)])[i].1 (B.mks ++ [(bm, bl)])[i].2 _ ∧ labG B.lab j bm bl (.slice o5 (j + 1) cap5) (B.mks ++ [(bm, bl)])[i].1 = .mobj i ∧ labG B.lab j bm bl (.slice o5 (j + 1) cap5) (B.mks ++ [(bm, bl)])[i].2 = .mrow i
    by_cases e : i < B.mks.length
    · rw [List.getElem_append_left e]
      obtain ⟨a1, a2, a3⟩ := h.marks.at' i e (by rw [hmsl]; omega)
      have e3 : (Mst.newJ c j).ms[i]'(by rw [hmsl]; omega) = List.replicate c.so.toNat noMark := by simp [Mst.newJ]
      rw [e3] at a1
      exact ⟨a1.keep (hk _ (by rw [a2]; simp) (by rw [a2]; simp) (by rw [a2]; simp)) (hk _ (by rw [a3]; simp) (by rw [a3]; simp) (by rw [a3]; simp)), hl' _ _ (by simp) a2, hl' _ _ (by simp) a3⟩
    · have hij : i = j := by omega
      have e4 : (B.mks ++ [(bm, bl)])[i] = (bm, bl) := by
        rw [List.getElem_append_right (by omega)]
        simp
      rw [e4]
      refine ⟨hmk, ?_, ?_⟩
      · unfold labG; rw [if_pos rfl, hij]
      · unfold labG; rw [if_neg hne, if_pos rfl, hij]
  · exact (h.told.keep fun g e => hk g (by rcases e with e | ⟨i, e⟩ <;> (rw [e]; simp)) (by rcases e with e | ⟨i, e⟩ <;> (rw [e]; simp)) (by rcases e with e | ⟨i, e⟩ <;> (rw [e]; simp))).cast rfl rfl rfl rfl fun g e => hl g (by rcases e with e | ⟨i, e⟩ <;> (rw [e]; simp))
  · exact (h.seals.keep fun g e => hk g (by rcases e with e | ⟨i, e⟩ <;> (rw [e]; simp)) (by rcases e with e | ⟨i, e⟩ <;> (rw [e]; simp)) (by rcases e with e | ⟨i, e⟩ <;> (rw [e]; simp))).cast rfl rfl rfl fun g e => hl g (by rcases e with e | ⟨i, e⟩ <;> (rw [e]; simp))
  · exact (h.holds.keep fun g e => hk g (by rcases e with e | ⟨i, e⟩ <;> (rw [e]; simp)) (by rcases e with e | ⟨i, e⟩ <;> (rw [e]; simp)) (by rcases e with e | ⟨i, e⟩ <;> (rw [e]; simp))).cast rfl rfl rfl fun g e => hl g (by rcases e with e | ⟨i, e⟩ <;> (rw [e]; simp))
  · intro g hg
    by_cases e1 : g = bm
    · rw [e1]; exact hmk.lt.1
    · by_cases e2 : g = bl
      · rw [e2]; exact hmk.lt.2
      · by_cases e3 : (Value.slice o5 (j + 1) cap5).ownBlock = some g
        · exact (hown.ge e3).2
        · have e4 : labG B.lab j bm bl (.slice o5 (j + 1) cap5) g = B.lab g := by unfold labG; rw [if_neg e1, if_neg e2, if_neg e3]
          have hg' : labG B.lab j bm bl (.slice o5 (j + 1) cap5) g ≠ .no := hg
          rw [e4] at hg'
          exact Nat.lt_of_lt_of_le (h.lt g hg') hs
end Go.Proofs.Ytaicecnfodhlcaa
