/- The program's box.each, and the closures that it is handed, walked: a box coordinate by coordinate; up to 1000000 coordinates. -/
import Derived.Test.YthdphjbecibeaaaProg
import Derived.Below
import Derived.Deep.Draws
import Derived.Deep.AppendLies
import Derived.Maps.AppendAt
import Derived.OwnWalk
import Derived.Laws.BytesArg
import Derived.Laws.MakeOwn
import Derived.Laws.OwnMore
import Derived.Deep.OwnRows
import Derived.Tactics
import Derived.Lib.ConvBytes
import Derived.Laws.Slices
import Derived.WalkKit
import Derived.KernelRfl
import Derived.RowKit3
import Derived.Deep.LoopGhost
import Derived.Deep.QuietTactic
import Derived.BigQuiet
import Derived.WideLaws
import Derived.Deep.DeepCutAuto
import Derived.Deep.CutBlock
import Derived.Deep.RegionHeld3
import Derived.Laws.Rows
import Derived.Lib.AppendStr
import Derived.ArgAppend
import Derived.Laws.IdiomCopy
import Derived.OrdersHeld
import Derived.Laws.BitsLemmas
import Derived.RowKit
import Derived.WalkSpells
import Derived.Test.YthdphjbecibeaaaVCoverOnceWords
import Derived.Test.YthdphjbecibeaaaVCoverOnceLast
import Derived.Test.YthdphjbecibeaaaVCoverOnceTab
import Derived.Test.YthdphjbecibeaaaVCoverOnceFour
import Derived.Test.YthdphjbecibeaaaVCoverOnceQPut
import Derived.Test.YthdphjbecibeaaaVCoverOnceApart
import Derived.Test.YthdphjbecibeaaaVCoverOnceArr
import Derived.Test.YthdphjbecibeaaaVCoverOnceZeros
import Derived.Test.YthdphjbecibeaaaVCoverOnceFoot
import Derived.Test.YthdphjbecibeaaaVCoverOnceKept
import Derived.Test.YthdphjbecibeaaaVCoverOnceShare
import Derived.Test.YthdphjbecibeaaaVCoverOnceN
import Derived.Test.YthdphjbecibeaaaVCoverOnceFootNe
import Derived.Test.YthdphjbecibeaaaVCoverOnceAt
import Derived.Test.YthdphjbecibeaaaVCoverOnceEqStruct
import Derived.Test.YthdphjbecibeaaaVCoverOnceRepsOne
import Derived.Test.YthdphjbecibeaaaVCoverOnceInv
import Derived.Test.YthdphjbecibeaaaVCoverOnceInvWords
import Derived.Test.YthdphjbecibeaaaVCoverOnceGuard
import Derived.Test.YthdphjbecibeaaaVCoverOnceNEv
import Derived.Test.YthdphjbecibeaaaVCoverOnceMore
import Derived.Deep.RegionWith
import Derived.RegionTactic
import Derived.ChangeAlike
namespace Go.Proofs.YthdphjbecibeaaaHe
open Go.RowKit Go.Proofs.YthdphjbecibeaaaW.PrintWords Go.Proofs.YthdphjbecibeaaaW.PrintLast Go.Proofs.YthdphjbecibeaaaW.PrintMore
attribute [local go_sem] max2_int min2_int max_two min_two max_three min_three max_four min_four
set_option linter.unusedVariables false
set_option linter.unusedSimpArgs false

theorem info30h : (Try.prog.info? 30).map (fun i => (i.zero, i.size, i.bytes)) = some (some (.int .u64 0), 1, 8) := by kernel_rfl

/-- a list of numbers -/
def mkI (n : Nat) (F : Nat → Int) : List Int := (List.range n).map F

theorem mkI_length (n : Nat) (F : Nat → Int) : (mkI n F).length = n := by simp [mkI]

theorem mkI_congr {n : Nat} {F G : Nat → Int} (h : ∀ i, i < n → F i = G i) : mkI n F = mkI n G := by
  unfold mkI
  apply List.map_congr_left
  intro i hi
  exact h i (List.mem_range.1 hi)

theorem mkI_set {n : Nat} {F : Nat → Int} (i : Nat) (y : Int) : (mkI n F).set i y = mkI n (fun j => if j = i then y else F j) := by
  apply List.ext_getElem
  · simp [mkI]
  · intro j h1 h2
    rw [List.getElem_set]
    by_cases h : i = j
    · subst h; simp [mkI]
    · rw [if_neg h]
      have h' : ¬ j = i := fun e => h e.symm
      simp [mkI, h']

/-- a block of numbers -/
def blkU (n : Nat) (F : Nat → Int) : Obj := .cells (encs (Value.int .u64) (mkI n F)).toArray 30 (0, 0)

theorem blkU_made (n : Nat) : Obj.cells (madeCells #[Value.int .u64 0] n) 30 (0, 0) = blkU n (fun _ => 0) := by
  unfold blkU
  congr 1
  apply Array.ext'
  apply List.ext_getElem
  · simp [encs, madeCells, mkI]
  · intro i h1 h2
    simp [encs, madeCells, mkI, Nat.mod_one]

theorem blkU_R {w : World} {base g n : Nat} {F : Nat → Int} {ok : Nat → Prop} (hb : w.heap[g]? = some (blkU n F)) (hg : base ≤ g) (hok : ok g) (hn : n ≤ 9223372036854775807) :
    Kd.R (Kd.int .u64) 30 w base ok (.slice (some ⟨g, 0, none⟩) n n) (mkI n F) := by
  refine ⟨fun k hk => ?_, encs (Value.int .u64) (mkI n F), ⟨?_, .inr ⟨g, n, _, ?_, hg, hb, ?_, hn, ?_, ?_⟩⟩, Kd.reps_scalar _⟩
  · have : g = k := by simpa [Value.ownBlock] using hk
    subst this
    exact hok
  · show _ = _ * 1
    simp [encs_length]
  · rw [mkI_length]
  · rw [mkI_length]; exact Nat.le_refl _
  · show _ = _ * 1
    simp [encs_length, mkI_length]
  · show List.take (_ * 1) _ = _
    simp
    rw [List.take_of_length_le (by simp [encs_length])]

theorem blkU_set {w : World} {g n : Nat} {F : Nat → Int} (hb : w.heap[g]? = some (blkU n F)) (i : Nat) (y : Int) :
    (w.setCell ⟨g, i, none⟩ (.int .u64 y)).heap[g]? = some (blkU n (fun j => if j = i then y else F j)) := by
  have h := blk_set hb i (.int .u64 y)
  rw [h]
  unfold blkU
  rw [← mkI_set]
  simp [encs, List.map_set]

theorem blkU_cell {w : World} {g n : Nat} {F : Nat → Int} (hb : w.heap[g]? = some (blkU n F)) (i : Nat) (hi : i < n) :
    w.cell? ⟨g, i, none⟩ = some (.int .u64 (F i)) := by
  have h := blk_cell hb i
  rw [h]
  simp [encs, mkI, hi]

theorem blkU_frozen {w : World} {g n : Nat} {F : Nat → Int} (hb : w.heap[g]? = some (blkU n F)) (i : Nat) : w.frozen? ⟨g, i, none⟩ = false := blk_frozen hb i

/-- what the walk of 'each' carries: the box's block, the two rows, the result's block -/
structure EachAt (w : World) (n : Nat) (F G : Nat → Int) (g gl gh : Nat) (W : World) : Prop where
  bel : Below w.heap.size w W
  res : W.heap[w.heap.size]? = some (.cells #[.slice none 0 0, .slice none 0 0] 32 (0, 0))
  box : W.heap[g]? = some (.cells #[.slice (some ⟨gl, 0, none⟩) n n, .slice (some ⟨gh, 0, none⟩) n n] 32 (0, 0))
  lo : W.heap[gl]? = some (blkU n F)
  hi : W.heap[gh]? = some (blkU n G)
  gg : w.heap.size < g
  ggl : w.heap.size < gl
  ggh : w.heap.size < gh
  n1 : g ≠ gl
  n2 : g ≠ gh
  n3 : gl ≠ gh

theorem EachAt.drewN {w : World} {n : Nat} {F G : Nat → Int} {g gl gh : Nat} {W : World} (h : EachAt w n F G g gl gh W) (m : Nat) : EachAt w n F G g gl gh (W.drewN m) :=
  ⟨pw_below_drewN h.bel _, h.res, h.box, h.lo, h.hi, h.gg, h.ggl, h.ggh, h.n1, h.n2, h.n3⟩

theorem EachAt.setLo {w : World} {n : Nat} {F G : Nat → Int} {g gl gh : Nat} {W : World} (h : EachAt w n F G g gl gh W) (i : Nat) (y : Int) :
    EachAt w n (fun j => if j = i then y else F j) G g gl gh (W.setCell ⟨gl, i, none⟩ (.int .u64 y)) :=
  ⟨h.bel.setCell (show w.heap.size ≤ gl by have := h.ggl; omega) _, blk_far h.res (show w.heap.size ≠ gl by have := h.ggl; omega) _, blk_far h.box h.n1 _, blkU_set h.lo i y, blk_far h.hi (fun e => h.n3 e.symm) _, h.gg, h.ggl, h.ggh, h.n1, h.n2, h.n3⟩

theorem EachAt.setHi {w : World} {n : Nat} {F G : Nat → Int} {g gl gh : Nat} {W : World} (h : EachAt w n F G g gl gh W) (i : Nat) (y : Int) :
    EachAt w n F (fun j => if j = i then y else G j) g gl gh (W.setCell ⟨gh, i, none⟩ (.int .u64 y)) :=
  ⟨h.bel.setCell (show w.heap.size ≤ gh by have := h.ggh; omega) _, blk_far h.res (show w.heap.size ≠ gh by have := h.ggh; omega) _, blk_far h.box h.n2 _, blk_far h.lo h.n3 _, blkU_set h.hi i y, h.gg, h.ggl, h.ggh, h.n1, h.n2, h.n3⟩

theorem heap_at0 (w : World) (o0 o1 o2 o3 : Obj) : ((((w.alloc o0).alloc o1).alloc o2).alloc o3).drew.heap[w.heap.size]? = some o0 :=
  blk_alloc (blk_alloc (blk_alloc (blk_new w o0) o1) o2) o3
theorem heap_at1 (w : World) (o0 o1 o2 o3 : Obj) : ((((w.alloc o0).alloc o1).alloc o2).alloc o3).drew.heap[w.heap.size + 1]? = some o1 := by
  have h := blk_new (w.alloc o0) o1
  have e : (w.alloc o0).heap.size = w.heap.size + 1 := by simp
  rw [e] at h
  exact blk_alloc (blk_alloc h o2) o3
theorem heap_at2 (w : World) (o0 o1 o2 o3 : Obj) : ((((w.alloc o0).alloc o1).alloc o2).alloc o3).drew.heap[w.heap.size + 1 + 1]? = some o2 := by
  have h := blk_new ((w.alloc o0).alloc o1) o2
  have e : ((w.alloc o0).alloc o1).heap.size = w.heap.size + 1 + 1 := by simp
  rw [e] at h
  exact blk_alloc h o3
theorem heap_at3 (w : World) (o0 o1 o2 o3 : Obj) : ((((w.alloc o0).alloc o1).alloc o2).alloc o3).drew.heap[w.heap.size + 1 + 1 + 1]? = some o3 := by
  have h := blk_new (((w.alloc o0).alloc o1).alloc o2) o3
  have e : (((w.alloc o0).alloc o1).alloc o2).heap.size = w.heap.size + 1 + 1 + 1 := by simp
  rw [e] at h
  exact h
theorem heap_bel (w : World) (o0 o1 o2 o3 : Obj) : Below w.heap.size w ((((w.alloc o0).alloc o1).alloc o2).alloc o3).drew :=
  below_drew1 (below_alloc (below_alloc (below_alloc (below_alloc (Below.refl _ _) o0) o1) o2) o3)

def upTo (f : Nat → Int) (i : Nat) : Nat → Int := fun j => if j < i then f j else 0

theorem upTo_next (f : Nat → Int) (i : Nat) : (fun j => if j = i then f i else upTo f i j) = upTo f (i + 1) := by
  funext j
  unfold upTo
  by_cases h : j = i
  · subst h
    rw [if_pos rfl, if_pos (by omega)]
  · rw [if_neg h]
    by_cases h2 : j < i
    · rw [if_pos h2, if_pos (by omega)]
    · rw [if_neg h2, if_neg (by omega)]

theorem EachAt.next {w : World} {n : Nat} {f f' : Nat → Int} {g gl gh i : Nat} {W : World} (h : EachAt w n (upTo f i) (upTo f' i) g gl gh W) (m : Nat) :
    EachAt w n (upTo f (i + 1)) (upTo f' (i + 1)) g gl gh (((W.drewN m).setCell ⟨gl, i, none⟩ (.int .u64 (f i))).setCell ⟨gh, i, none⟩ (.int .u64 (f' i))) := by
  have := ((h.drewN m).setLo i (f i)).setHi i (f' i)
  rw [upTo_next, upTo_next] at this
  exact this

set_option maxHeartbeats 1600000 in
set_option maxRecDepth 100000 in
theorem eachAround (n : Nat) (hn : n ≤ 1000000) (b1 b2 : Nat) (lo hi : Nat → Int) (w : World)
    (hf : ∀ (i : Nat) (W : World), i < n → Below w.heap.size w W → Calls Try.prog 75 #[.int .i64 i, .pointer (some ⟨b1, 0, none⟩), .pointer (some ⟨b2, 0, none⟩)] W fun e W' => e = .returned (.tuple #[.int .u64 (lo i), .int .u64 (hi i)]) ∧ ∃ m, W' = W.drewN m) :
    Calls Try.prog 74 #[.int .i64 n, .func (.func 75) #[] #[.pointer (some ⟨b1, 0, none⟩), .pointer (some ⟨b2, 0, none⟩)]] w fun e w' =>
      ∃ gl gh : Nat, e = .returned (.agg #[.slice (some ⟨gl, 0, none⟩) n n, .slice (some ⟨gh, 0, none⟩) n n]) ∧ gl ≠ gh ∧ Kd.R (Kd.int .u64) 30 w' w.heap.size (fun k_ => k_ ≠ gh) (.slice (some ⟨gl, 0, none⟩) n n) (mkI n lo) ∧ Kd.R (Kd.int .u64) 30 w' w.heap.size (fun k_ => k_ ≠ gl) (.slice (some ⟨gh, 0, none⟩) n n) (mkI n hi) ∧ Below w.heap.size w w' := by
  have hu32 := Try.underlying32
  have hmk := print_make (P := Try.prog) 22 30 .u64 8 Try.underlying22 info30h (by decide) n (by omega)
  have HF := Aside0.mk hf
  clear hf
  go_enter Try.func74, Try.ntmps74
  go_upto_region 1 with fail
  go_cut [5] (fun s5 wx => ∃ g gl gh : Nat, s5 = .pointer (some ⟨g, 0, none⟩) ∧ Aside0 (EachAt w n (fun _ => 0) (fun _ => 0) g gl gh wx))
  case first =>
    go_region
    all_goals
      (try go_wp2)
      go_meet
    all_goals
      refine ⟨_, _, _, rfl, ⟨⟨heap_bel _ _ _ _ _, heap_at0 _ _ _ _ _, (by first | exact heap_at1 _ _ _ _ _ | exact heap_at2 _ _ _ _ _ | exact heap_at3 _ _ _ _ _), ?_, ?_, ?_, ?_, ?_, ?_, ?_, ?_⟩⟩⟩
      · rw [← blkU_made]
        first | exact heap_at1 _ _ _ _ _ | exact heap_at2 _ _ _ _ _ | exact heap_at3 _ _ _ _ _
      · rw [← blkU_made]
        first | exact heap_at1 _ _ _ _ _ | exact heap_at2 _ _ _ _ _ | exact heap_at3 _ _ _ _ _
      all_goals omega
  case rest =>
    obtain ⟨g, gl, gh, rfl, HE⟩ := hcut
    clear hmk
    go_wp2
    go_loopw [6, 13] (fun v6 v13 wr => ∃ i : Nat, i ≤ n ∧ v13 = .int .i64 i ∧ Aside0 (EachAt w n (upTo lo i) (upTo hi i) g gl gh wr)) (fun _ v13 _ => n - (intOf v13).toNat)
    case atStart => exact ⟨0, Nat.zero_le _, rfl, HE⟩
    case round =>
      obtain ⟨i, hi1, rfl, HE⟩ := hrel
      by_cases hlt : i < n
      · have hz0 : True := trivial
        have hb0 : wr.cell? ⟨g, 0, none⟩ = some (.slice (some ⟨gl, 0, none⟩) n n) := (blk_cell HE.out.box 0).trans rfl
        have hb1 : wr.cell? ⟨g, 1, none⟩ = some (.slice (some ⟨gh, 0, none⟩) n n) := (blk_cell HE.out.box 1).trans rfl
        have hc0 := blkU_cell HE.out.lo i hlt
        have hc1 := blkU_cell HE.out.hi i hlt
        have hf0 := blkU_frozen HE.out.lo i
        have hf1 := blkU_frozen HE.out.hi i
        have hs1 : ∀ m v, ((wr.drewN m).setCell ⟨gl, i, none⟩ v).cell? ⟨g, 1, none⟩ = some (.slice (some ⟨gh, 0, none⟩) n n) := fun m v => by
          exact (World.cell?_setCell_other _ _ _ _ (fun e => HE.out.n1 (congrArg Addr.block e).symm)).trans hb1
        have hs2 : ∀ m v, ((wr.drewN m).setCell ⟨gl, i, none⟩ v).cell? ⟨gh, i, none⟩ = some (.int .u64 (upTo hi i i)) := fun m v => by
          exact (World.cell?_setCell_other _ _ _ _ (fun e => HE.out.n3 (congrArg Addr.block e))).trans hc1
        have hx0 : (0 : Int) ≤ (i : Int) := by omega
        have hx1 : (i : Int) < (n : Int) := by omega
        have hx2 : ∀ m v, ((wr.drewN m).setCell ⟨gl, i, none⟩ v).frozen? ⟨gh, i, none⟩ = false   := fun m v => by
          rw [World.frozen?_setCell]; exact hf1
        go_upto_region 5 with fail
        go_region_with (go_at_call 75; refine (HF.out i _ hlt (below_drew1 HE.out.bel)).mono ?_; rintro e w' ⟨rfl, nd, rfl⟩)
        all_goals
          go_wp2
          go_roundw
          case rel => exact ⟨i + 1, by omega, by go_num, ⟨HE.out.next _⟩⟩
          case measure => simp [intOf]; omega
      · have hi2 : i = n := by omega
        subst hi2
        have hb0 : wr.cell? ⟨g, 0, none⟩ = some (.slice (some ⟨gl, 0, none⟩) i i) := (blk_cell HE.out.box 0).trans rfl
        have hb1 : wr.cell? ⟨g, 1, none⟩ = some (.slice (some ⟨gh, 0, none⟩) i i) := (blk_cell HE.out.box 1).trans rfl
        have hr0 : wr.cell? ⟨w.heap.size, 0, none⟩ = some (.slice none 0 0) := (blk_cell HE.out.res 0).trans rfl
        have hr1 : wr.cell? ⟨w.heap.size, 1, none⟩ = some (.slice none 0 0) := (blk_cell HE.out.res 1).trans rfl
        have hf0 := blk_frozen HE.out.res 0
        have hf1 := blk_frozen HE.out.res 1
        go_wp2
        have hE := HE.out
        refine bodyPost_ret (results_cell_row rfl _ _ w.heap.size 32 #[.slice (some ⟨gl, 0, none⟩) i i, .slice (some ⟨gh, 0, none⟩) i i] (0, 0) _ rfl (blk_put (cs := #[.slice (some ⟨gl, 0, none⟩) i i, .slice none 0 0]) (blk_put (cs := #[.slice none 0 0, .slice none 0 0]) hE.res 0 _ rfl) 1 _ rfl) Try.underlying32 rfl (by kernel_rfl)) rfl ?_
        have hG := hE.gg
        have hGl := hE.ggl
        have hGh := hE.ggh
        have en : ∀ f : Nat → Int, mkI i (upTo f i) = mkI i f := fun f => mkI_congr (fun j hj => if_pos hj)
        refine ⟨_, _, rfl, hE.n3, ?_, ?_, (hE.bel.setCell (Nat.le_refl _) _).setCell (Nat.le_refl _) _⟩
        · rw [← en lo]
          exact blkU_R (blk_far (blk_far hE.lo (show gl ≠ w.heap.size by omega) _) (show gl ≠ w.heap.size by omega) _) (by omega) hE.n3 (by omega)
        · rw [← en hi]
          exact blkU_R (blk_far (blk_far hE.hi (show gh ≠ w.heap.size by omega) _) (show gh ≠ w.heap.size by omega) _) (by omega) (fun e => hE.n3 e.symm) (by omega)

set_option maxHeartbeats 1600000 in
set_option maxRecDepth 100000 in
theorem eachCell (n : Nat) (hn : n ≤ 1000000) (b1 b2 : Nat) (lo hi : Nat → Int) (w : World)
    (hf : ∀ (i : Nat) (W : World), i < n → Below w.heap.size w W → Calls Try.prog 76 #[.int .i64 i, .pointer (some ⟨b1, 0, none⟩), .pointer (some ⟨b2, 0, none⟩)] W fun e W' => e = .returned (.tuple #[.int .u64 (lo i), .int .u64 (hi i)]) ∧ ∃ m, W' = W.drewN m) :
    Calls Try.prog 74 #[.int .i64 n, .func (.func 76) #[] #[.pointer (some ⟨b1, 0, none⟩), .pointer (some ⟨b2, 0, none⟩)]] w fun e w' =>
      ∃ gl gh : Nat, e = .returned (.agg #[.slice (some ⟨gl, 0, none⟩) n n, .slice (some ⟨gh, 0, none⟩) n n]) ∧ gl ≠ gh ∧ Kd.R (Kd.int .u64) 30 w' w.heap.size (fun k_ => k_ ≠ gh) (.slice (some ⟨gl, 0, none⟩) n n) (mkI n lo) ∧ Kd.R (Kd.int .u64) 30 w' w.heap.size (fun k_ => k_ ≠ gl) (.slice (some ⟨gh, 0, none⟩) n n) (mkI n hi) ∧ Below w.heap.size w w' := by
  have hu32 := Try.underlying32
  have hmk := print_make (P := Try.prog) 22 30 .u64 8 Try.underlying22 info30h (by decide) n (by omega)
  have HF := Aside0.mk hf
  clear hf
  go_enter Try.func74, Try.ntmps74
  go_upto_region 1 with fail
  go_cut [5] (fun s5 wx => ∃ g gl gh : Nat, s5 = .pointer (some ⟨g, 0, none⟩) ∧ Aside0 (EachAt w n (fun _ => 0) (fun _ => 0) g gl gh wx))
  case first =>
    go_region
    all_goals
      (try go_wp2)
      go_meet
    all_goals
      refine ⟨_, _, _, rfl, ⟨⟨heap_bel _ _ _ _ _, heap_at0 _ _ _ _ _, (by first | exact heap_at1 _ _ _ _ _ | exact heap_at2 _ _ _ _ _ | exact heap_at3 _ _ _ _ _), ?_, ?_, ?_, ?_, ?_, ?_, ?_, ?_⟩⟩⟩
      · rw [← blkU_made]
        first | exact heap_at1 _ _ _ _ _ | exact heap_at2 _ _ _ _ _ | exact heap_at3 _ _ _ _ _
      · rw [← blkU_made]
        first | exact heap_at1 _ _ _ _ _ | exact heap_at2 _ _ _ _ _ | exact heap_at3 _ _ _ _ _
      all_goals omega
  case rest =>
    obtain ⟨g, gl, gh, rfl, HE⟩ := hcut
    clear hmk
    go_wp2
    go_loopw [6, 13] (fun v6 v13 wr => ∃ i : Nat, i ≤ n ∧ v13 = .int .i64 i ∧ Aside0 (EachAt w n (upTo lo i) (upTo hi i) g gl gh wr)) (fun _ v13 _ => n - (intOf v13).toNat)
    case atStart => exact ⟨0, Nat.zero_le _, rfl, HE⟩
    case round =>
      obtain ⟨i, hi1, rfl, HE⟩ := hrel
      by_cases hlt : i < n
      · have hz0 : True := trivial
        have hb0 : wr.cell? ⟨g, 0, none⟩ = some (.slice (some ⟨gl, 0, none⟩) n n) := (blk_cell HE.out.box 0).trans rfl
        have hb1 : wr.cell? ⟨g, 1, none⟩ = some (.slice (some ⟨gh, 0, none⟩) n n) := (blk_cell HE.out.box 1).trans rfl
        have hc0 := blkU_cell HE.out.lo i hlt
        have hc1 := blkU_cell HE.out.hi i hlt
        have hf0 := blkU_frozen HE.out.lo i
        have hf1 := blkU_frozen HE.out.hi i
        have hs1 : ∀ m v, ((wr.drewN m).setCell ⟨gl, i, none⟩ v).cell? ⟨g, 1, none⟩ = some (.slice (some ⟨gh, 0, none⟩) n n) := fun m v => by
          exact (World.cell?_setCell_other _ _ _ _ (fun e => HE.out.n1 (congrArg Addr.block e).symm)).trans hb1
        have hs2 : ∀ m v, ((wr.drewN m).setCell ⟨gl, i, none⟩ v).cell? ⟨gh, i, none⟩ = some (.int .u64 (upTo hi i i)) := fun m v => by
          exact (World.cell?_setCell_other _ _ _ _ (fun e => HE.out.n3 (congrArg Addr.block e))).trans hc1
        have hx0 : (0 : Int) ≤ (i : Int) := by omega
        have hx1 : (i : Int) < (n : Int) := by omega
        have hx2 : ∀ m v, ((wr.drewN m).setCell ⟨gl, i, none⟩ v).frozen? ⟨gh, i, none⟩ = false   := fun m v => by
          rw [World.frozen?_setCell]; exact hf1
        go_upto_region 5 with fail
        go_region_with (go_at_call 76; refine (HF.out i _ hlt (below_drew1 HE.out.bel)).mono ?_; rintro e w' ⟨rfl, nd, rfl⟩)
        all_goals
          go_wp2
          go_roundw
          case rel => exact ⟨i + 1, by omega, by go_num, ⟨HE.out.next _⟩⟩
          case measure => simp [intOf]; omega
      · have hi2 : i = n := by omega
        subst hi2
        have hb0 : wr.cell? ⟨g, 0, none⟩ = some (.slice (some ⟨gl, 0, none⟩) i i) := (blk_cell HE.out.box 0).trans rfl
        have hb1 : wr.cell? ⟨g, 1, none⟩ = some (.slice (some ⟨gh, 0, none⟩) i i) := (blk_cell HE.out.box 1).trans rfl
        have hr0 : wr.cell? ⟨w.heap.size, 0, none⟩ = some (.slice none 0 0) := (blk_cell HE.out.res 0).trans rfl
        have hr1 : wr.cell? ⟨w.heap.size, 1, none⟩ = some (.slice none 0 0) := (blk_cell HE.out.res 1).trans rfl
        have hf0 := blk_frozen HE.out.res 0
        have hf1 := blk_frozen HE.out.res 1
        go_wp2
        have hE := HE.out
        refine bodyPost_ret (results_cell_row rfl _ _ w.heap.size 32 #[.slice (some ⟨gl, 0, none⟩) i i, .slice (some ⟨gh, 0, none⟩) i i] (0, 0) _ rfl (blk_put (cs := #[.slice (some ⟨gl, 0, none⟩) i i, .slice none 0 0]) (blk_put (cs := #[.slice none 0 0, .slice none 0 0]) hE.res 0 _ rfl) 1 _ rfl) Try.underlying32 rfl (by kernel_rfl)) rfl ?_
        have hG := hE.gg
        have hGl := hE.ggl
        have hGh := hE.ggh
        have en : ∀ f : Nat → Int, mkI i (upTo f i) = mkI i f := fun f => mkI_congr (fun j hj => if_pos hj)
        refine ⟨_, _, rfl, hE.n3, ?_, ?_, (hE.bel.setCell (Nat.le_refl _) _).setCell (Nat.le_refl _) _⟩
        · rw [← en lo]
          exact blkU_R (blk_far (blk_far hE.lo (show gl ≠ w.heap.size by omega) _) (show gl ≠ w.heap.size by omega) _) (by omega) hE.n3 (by omega)
        · rw [← en hi]
          exact blkU_R (blk_far (blk_far hE.hi (show gh ≠ w.heap.size by omega) _) (show gh ≠ w.heap.size by omega) _) (by omega) (fun e => hE.n3 e.symm) (by omega)

set_option maxHeartbeats 1600000 in
set_option maxRecDepth 100000 in
theorem eachMeet (n : Nat) (hn : n ≤ 1000000) (b1 b2 : Nat) (lo hi : Nat → Int) (w : World)
    (hf : ∀ (i : Nat) (W : World), i < n → Below w.heap.size w W → Calls Try.prog 89 #[.int .i64 i, .pointer (some ⟨b1, 0, none⟩), .pointer (some ⟨b2, 0, none⟩)] W fun e W' => e = .returned (.tuple #[.int .u64 (lo i), .int .u64 (hi i)]) ∧ ∃ m, W' = W.drewN m) :
    Calls Try.prog 74 #[.int .i64 n, .func (.func 89) #[] #[.pointer (some ⟨b1, 0, none⟩), .pointer (some ⟨b2, 0, none⟩)]] w fun e w' =>
      ∃ gl gh : Nat, e = .returned (.agg #[.slice (some ⟨gl, 0, none⟩) n n, .slice (some ⟨gh, 0, none⟩) n n]) ∧ gl ≠ gh ∧ Kd.R (Kd.int .u64) 30 w' w.heap.size (fun k_ => k_ ≠ gh) (.slice (some ⟨gl, 0, none⟩) n n) (mkI n lo) ∧ Kd.R (Kd.int .u64) 30 w' w.heap.size (fun k_ => k_ ≠ gl) (.slice (some ⟨gh, 0, none⟩) n n) (mkI n hi) ∧ Below w.heap.size w w' := by
  have hu32 := Try.underlying32
  have hmk := print_make (P := Try.prog) 22 30 .u64 8 Try.underlying22 info30h (by decide) n (by omega)
  have HF := Aside0.mk hf
  clear hf
  go_enter Try.func74, Try.ntmps74
  go_upto_region 1 with fail
  go_cut [5] (fun s5 wx => ∃ g gl gh : Nat, s5 = .pointer (some ⟨g, 0, none⟩) ∧ Aside0 (EachAt w n (fun _ => 0) (fun _ => 0) g gl gh wx))
  case first =>
    go_region
    all_goals
      (try go_wp2)
      go_meet
    all_goals
      refine ⟨_, _, _, rfl, ⟨⟨heap_bel _ _ _ _ _, heap_at0 _ _ _ _ _, (by first | exact heap_at1 _ _ _ _ _ | exact heap_at2 _ _ _ _ _ | exact heap_at3 _ _ _ _ _), ?_, ?_, ?_, ?_, ?_, ?_, ?_, ?_⟩⟩⟩
      · rw [← blkU_made]
        first | exact heap_at1 _ _ _ _ _ | exact heap_at2 _ _ _ _ _ | exact heap_at3 _ _ _ _ _
      · rw [← blkU_made]
        first | exact heap_at1 _ _ _ _ _ | exact heap_at2 _ _ _ _ _ | exact heap_at3 _ _ _ _ _
      all_goals omega
  case rest =>
    obtain ⟨g, gl, gh, rfl, HE⟩ := hcut
    clear hmk
    go_wp2
    go_loopw [6, 13] (fun v6 v13 wr => ∃ i : Nat, i ≤ n ∧ v13 = .int .i64 i ∧ Aside0 (EachAt w n (upTo lo i) (upTo hi i) g gl gh wr)) (fun _ v13 _ => n - (intOf v13).toNat)
    case atStart => exact ⟨0, Nat.zero_le _, rfl, HE⟩
    case round =>
      obtain ⟨i, hi1, rfl, HE⟩ := hrel
      by_cases hlt : i < n
      · have hz0 : True := trivial
        have hb0 : wr.cell? ⟨g, 0, none⟩ = some (.slice (some ⟨gl, 0, none⟩) n n) := (blk_cell HE.out.box 0).trans rfl
        have hb1 : wr.cell? ⟨g, 1, none⟩ = some (.slice (some ⟨gh, 0, none⟩) n n) := (blk_cell HE.out.box 1).trans rfl
        have hc0 := blkU_cell HE.out.lo i hlt
        have hc1 := blkU_cell HE.out.hi i hlt
        have hf0 := blkU_frozen HE.out.lo i
        have hf1 := blkU_frozen HE.out.hi i
        have hs1 : ∀ m v, ((wr.drewN m).setCell ⟨gl, i, none⟩ v).cell? ⟨g, 1, none⟩ = some (.slice (some ⟨gh, 0, none⟩) n n) := fun m v => by
          exact (World.cell?_setCell_other _ _ _ _ (fun e => HE.out.n1 (congrArg Addr.block e).symm)).trans hb1
        have hs2 : ∀ m v, ((wr.drewN m).setCell ⟨gl, i, none⟩ v).cell? ⟨gh, i, none⟩ = some (.int .u64 (upTo hi i i)) := fun m v => by
          exact (World.cell?_setCell_other _ _ _ _ (fun e => HE.out.n3 (congrArg Addr.block e))).trans hc1
        have hx0 : (0 : Int) ≤ (i : Int) := by omega
        have hx1 : (i : Int) < (n : Int) := by omega
        have hx2 : ∀ m v, ((wr.drewN m).setCell ⟨gl, i, none⟩ v).frozen? ⟨gh, i, none⟩ = false   := fun m v => by
          rw [World.frozen?_setCell]; exact hf1
        go_upto_region 5 with fail
        go_region_with (go_at_call 89; refine (HF.out i _ hlt (below_drew1 HE.out.bel)).mono ?_; rintro e w' ⟨rfl, nd, rfl⟩)
        all_goals
          go_wp2
          go_roundw
          case rel => exact ⟨i + 1, by omega, by go_num, ⟨HE.out.next _⟩⟩
          case measure => simp [intOf]; omega
      · have hi2 : i = n := by omega
        subst hi2
        have hb0 : wr.cell? ⟨g, 0, none⟩ = some (.slice (some ⟨gl, 0, none⟩) i i) := (blk_cell HE.out.box 0).trans rfl
        have hb1 : wr.cell? ⟨g, 1, none⟩ = some (.slice (some ⟨gh, 0, none⟩) i i) := (blk_cell HE.out.box 1).trans rfl
        have hr0 : wr.cell? ⟨w.heap.size, 0, none⟩ = some (.slice none 0 0) := (blk_cell HE.out.res 0).trans rfl
        have hr1 : wr.cell? ⟨w.heap.size, 1, none⟩ = some (.slice none 0 0) := (blk_cell HE.out.res 1).trans rfl
        have hf0 := blk_frozen HE.out.res 0
        have hf1 := blk_frozen HE.out.res 1
        go_wp2
        have hE := HE.out
        refine bodyPost_ret (results_cell_row rfl _ _ w.heap.size 32 #[.slice (some ⟨gl, 0, none⟩) i i, .slice (some ⟨gh, 0, none⟩) i i] (0, 0) _ rfl (blk_put (cs := #[.slice (some ⟨gl, 0, none⟩) i i, .slice none 0 0]) (blk_put (cs := #[.slice none 0 0, .slice none 0 0]) hE.res 0 _ rfl) 1 _ rfl) Try.underlying32 rfl (by kernel_rfl)) rfl ?_
        have hG := hE.gg
        have hGl := hE.ggl
        have hGh := hE.ggh
        have en : ∀ f : Nat → Int, mkI i (upTo f i) = mkI i f := fun f => mkI_congr (fun j hj => if_pos hj)
        refine ⟨_, _, rfl, hE.n3, ?_, ?_, (hE.bel.setCell (Nat.le_refl _) _).setCell (Nat.le_refl _) _⟩
        · rw [← en lo]
          exact blkU_R (blk_far (blk_far hE.lo (show gl ≠ w.heap.size by omega) _) (show gl ≠ w.heap.size by omega) _) (by omega) hE.n3 (by omega)
        · rw [← en hi]
          exact blkU_R (blk_far (blk_far hE.hi (show gh ≠ w.heap.size by omega) _) (show gh ≠ w.heap.size by omega) _) (by omega) (fun e => hE.n3 e.symm) (by omega)

def arLo (x n : Int) : Int := IntKind.u64.wrap (x - mn x n)
def arHi (x n : Int) : Int := if IntKind.u64.wrap (x + n) < n then 18446744073709551615 else IntKind.u64.wrap (x + n)

set_option maxHeartbeats 1600000 in
set_option maxRecDepth 100000 in
theorem clo75 (i : Nat) (b1 b2 c : Nat) (ad : Addr) (p : List Int) (n : Int) (W : World) (hp : W.cell? ⟨b1, 0, none⟩ = some (.slice (some ad) p.length c)) (hn : W.cell? ⟨b2, 0, none⟩ = some (.int .u64 n)) (hi : i < p.length)
    (hc : W.cell? (ad.add i) = some (.int .u64 (rd p i))) :
    Calls Try.prog 75 #[.int .i64 i, .pointer (some ⟨b1, 0, none⟩), .pointer (some ⟨b2, 0, none⟩)] W fun e W' => e = .returned (.tuple #[.int .u64 (arLo (rd p i) n), .int .u64 (arHi (rd p i) n)]) ∧ ∃ m, W' = W.drewN m := by
  have hx0 : (0 : Int) ≤ (i : Int) := by omega
  have hx1 : (i : Int) < (p.length : Int) := by omega
  generalize rd p (i : Int) = x at *
  have hlo1 : n < x → arLo x n = IntKind.u64.wrap (x - n) := fun h => by unfold arLo mn; rw [if_pos h]
  have hlo2 : ¬ n < x → arLo x n = 0 := fun h => by unfold arLo mn; rw [if_neg h, Int.sub_self]; rfl
  have hhi1 : IntKind.u64.wrap (x + n) < n → arHi x n = 18446744073709551615 := fun h => if_pos h
  have hhi2 : ¬ IntKind.u64.wrap (x + n) < n → arHi x n = IntKind.u64.wrap (x + n) := fun h => if_neg h
  generalize arLo x n = rlo at *
  generalize arHi x n = rhi at *
  by_cases hm : n < x
  · have hmd : decide (n < x) = true := decide_eq_true hm
    have e0 := Aside0.mk (hlo1 hm)
    clear hlo1 hlo2
    by_cases h : IntKind.u64.wrap (x + n) < n
    · have hd : decide (IntKind.u64.wrap (x + n) < n) = true := decide_eq_true h
      have e1 := Aside0.mk (hhi1 h)
      clear hhi1 hhi2 h
      go_enter Try.func75, Try.ntmps75
      go_wp2
      go_quiet (fail)
      go_wp2
      go_ret2
      rw [e0.out, e1.out]
      exact ⟨rfl, _, rfl⟩
    · have hd : decide (IntKind.u64.wrap (x + n) < n) = false := decide_eq_false h
      have e1 := Aside0.mk (hhi2 h)
      clear hhi1 hhi2 h
      go_enter Try.func75, Try.ntmps75
      go_wp2
      go_quiet (fail)
      go_wp2
      go_ret2
      rw [e0.out, e1.out]
      exact ⟨rfl, _, rfl⟩
  · have hmd : decide (n < x) = false := decide_eq_false hm
    have e0 := Aside0.mk (hlo2 hm)
    clear hlo1 hlo2
    by_cases h : IntKind.u64.wrap (x + n) < n
    · have hd : decide (IntKind.u64.wrap (x + n) < n) = true := decide_eq_true h
      have e1 := Aside0.mk (hhi1 h)
      clear hhi1 hhi2 h
      go_enter Try.func75, Try.ntmps75
      go_wp2
      go_quiet (fail)
      go_wp2
      go_ret2
      rw [e0.out, e1.out]
      exact ⟨rfl, _, rfl⟩
    · have hd : decide (IntKind.u64.wrap (x + n) < n) = false := decide_eq_false h
      have e1 := Aside0.mk (hhi2 h)
      clear hhi1 hhi2 h
      go_enter Try.func75, Try.ntmps75
      go_wp2
      go_quiet (fail)
      go_wp2
      go_ret2
      rw [e0.out, e1.out]
      exact ⟨rfl, _, rfl⟩

set_option maxHeartbeats 1600000 in
set_option maxRecDepth 100000 in
theorem clo76 (i : Nat) (b1 b2 c : Nat) (ad : Addr) (p : List Int) (n : Int) (W : World) (hp : W.cell? ⟨b1, 0, none⟩ = some (.slice (some ad) p.length c)) (hn : W.cell? ⟨b2, 0, none⟩ = some (.int .u64 n)) (hi : i < p.length)
    (hc : W.cell? (ad.add i) = some (.int .u64 (rd p i))) :
    Calls Try.prog 76 #[.int .i64 i, .pointer (some ⟨b1, 0, none⟩), .pointer (some ⟨b2, 0, none⟩)] W fun e W' => e = .returned (.tuple #[.int .u64 (rd p i), .int .u64 (Go.bits .or .u64 (rd p i) n)]) ∧ ∃ m, W' = W.drewN m := by
  have hx0 : (0 : Int) ≤ (i : Int) := by omega
  have hx1 : (i : Int) < (p.length : Int) := by omega
  generalize rd p (i : Int) = x at *
  go_enter Try.func76, Try.ntmps76
  go_wp2
  go_quiet (fail)
  go_wp2
  go_ret2
  exact ⟨rfl, _, rfl⟩

set_option maxHeartbeats 1600000 in
set_option maxRecDepth 100000 in
theorem clo89 (i : Nat) (b1 b2 : Nat) (ca cb cc cd : Nat) (xa1 xb1 xc1 xd1 : Addr) (al ah bl bh : List Int) (W : World)
    (h1 : W.cell? ⟨b1, 0, none⟩ = some (.slice (some xa1) al.length ca)) (h2 : W.cell? ⟨b1, 1, none⟩ = some (.slice (some xb1) ah.length cb))
    (h3 : W.cell? ⟨b2, 0, none⟩ = some (.slice (some xc1) bl.length cc)) (h4 : W.cell? ⟨b2, 1, none⟩ = some (.slice (some xd1) bh.length cd))
    (l1 : i < al.length) (l2 : i < ah.length) (l3 : i < bl.length) (l4 : i < bh.length)
    (c1 : W.cell? (xa1.add i) = some (.int .u64 (rd al i))) (c2 : W.cell? (xb1.add i) = some (.int .u64 (rd ah i)))
    (c3 : W.cell? (xc1.add i) = some (.int .u64 (rd bl i))) (c4 : W.cell? (xd1.add i) = some (.int .u64 (rd bh i))) :
    Calls Try.prog 89 #[.int .i64 i, .pointer (some ⟨b1, 0, none⟩), .pointer (some ⟨b2, 0, none⟩)] W fun e W' => e = .returned (.tuple #[.int .u64 (mx (rd al i) (rd bl i)), .int .u64 (mn (rd ah i) (rd bh i))]) ∧ ∃ m, W' = W.drewN m := by
  have hu32 := Try.underlying32
  have x0 : (0 : Int) ≤ (i : Int) := by omega
  have x1 : (i : Int) < (al.length : Int) := by omega
  have x2 : (i : Int) < (ah.length : Int) := by omega
  have x3 : (i : Int) < (bl.length : Int) := by omega
  have x4 : (i : Int) < (bh.length : Int) := by omega
  generalize rd al (i : Int) = xa at *
  generalize rd ah (i : Int) = xb at *
  generalize rd bl (i : Int) = xc at *
  generalize rd bh (i : Int) = xd at *
  have ha1 : xa < xc → mx xa xc = xc := fun h => if_pos h
  have ha2 : ¬ xa < xc → mx xa xc = xa := fun h => if_neg h
  have hb1 : xd < xb → mn xb xd = xd := fun h => if_pos h
  have hb2 : ¬ xd < xb → mn xb xd = xb := fun h => if_neg h
  generalize mx xa xc = rlo at *
  generalize mn xb xd = rhi at *
  by_cases hm : xa < xc
  · have hmd : decide (xa < xc) = true := decide_eq_true hm
    have e0 := Aside0.mk (ha1 hm)
    clear ha1 ha2
    by_cases h : xd < xb
    · have hd : decide (xd < xb) = true := decide_eq_true h
      have e1 := Aside0.mk (hb1 h)
      clear hb1 hb2
      go_enter Try.func89, Try.ntmps89
      go_wp2
      go_quiet (fail)
      go_wp2
      go_ret2
      rw [e0.out, e1.out]
      exact ⟨rfl, _, rfl⟩
    · have hd : decide (xd < xb) = false := decide_eq_false h
      have e1 := Aside0.mk (hb2 h)
      clear hb1 hb2
      go_enter Try.func89, Try.ntmps89
      go_wp2
      go_quiet (fail)
      go_wp2
      go_ret2
      rw [e0.out, e1.out]
      exact ⟨rfl, _, rfl⟩
  · have hmd : decide (xa < xc) = false := decide_eq_false hm
    have e0 := Aside0.mk (ha2 hm)
    clear ha1 ha2
    by_cases h : xd < xb
    · have hd : decide (xd < xb) = true := decide_eq_true h
      have e1 := Aside0.mk (hb1 h)
      clear hb1 hb2
      go_enter Try.func89, Try.ntmps89
      go_wp2
      go_quiet (fail)
      go_wp2
      go_ret2
      rw [e0.out, e1.out]
      exact ⟨rfl, _, rfl⟩
    · have hd : decide (xd < xb) = false := decide_eq_false h
      have e1 := Aside0.mk (hb2 h)
      clear hb1 hb2
      go_enter Try.func89, Try.ntmps89
      go_wp2
      go_quiet (fail)
      go_wp2
      go_ret2
      rw [e0.out, e1.out]
      exact ⟨rfl, _, rfl⟩
end Go.Proofs.YthdphjbecibeaaaHe
