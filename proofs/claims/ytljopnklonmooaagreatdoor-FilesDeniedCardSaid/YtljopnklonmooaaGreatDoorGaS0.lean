/-
 Law 30, Denied: perform, by the user 6.
-/
import Derived.Test.YtljopnklonmooaaGreatDoorRowF
import Derived.BigRegion
import Derived.Deep.CutBlock
namespace Go.Proofs.YtljopnklonmooaaGreatDoor
open Go.RowKit
abbrev id6C (g:Nat):Array Value:=#[.int .i64 6,.slice (some ⟨g,0,none⟩) 2 2]
abbrev id6Box (g:Nat):Obj:=.cells (id6C g) 36 (0,0)
set_option maxRecDepth 100000 in
theorem who6_any (w:World):Calls Tryz.prog 108 #[.int .u8 2] w fun r w'=>∃ g,r = .returned (.tuple #[.string ⟨#[51]⟩,.agg (id6C g)])∧w'.heap[g]? = some gr6Box∧w.heap.size≤g∧Below w.heap.size w w':=by
 have hb1:=(Below.refl w.heap.size w).alloc (Nat.le_refl _) (.cells (id6C (w.heap.size + 1)) 36)
 have hb2:=(Below.refl _ (w.alloc (.cells (id6C (w.heap.size + 1)) 36))).alloc (Nat.le_refl _) (.cells #[.int .i64 7,.int .i64 8] 3)
 have HB:=Lib.hid (hb1.trans (hb2.mono hb1.size))
 obtain ⟨i0,i1⟩:=cells2' ((hb2.block w.heap.size (by simp)).trans (World.alloc_heap_new w _))
 have HN:=Lib.hid (show ((w.alloc (.cells (id6C (w.heap.size + 1)) 36)).alloc (.cells #[.int .i64 7,.int .i64 8] 3)).heap[w.heap.size + 1]? = some gr6Box from by
  have:=World.alloc_heap_new (w.alloc (.cells (id6C (w.heap.size + 1)) 36)) (.cells #[.int .i64 7,.int .i64 8] 3)
  rwa [World.size_alloc] at this)
 have HI:=Lib.hid (And.intro i0 i1)
 clear hb1 hb2 i0 i1
 go_enter Tryz.func108,Tryz.ntmps108
 go_wp2_with fail
 obtain ⟨i0,i1⟩:=HI.out
 refine bodyPost_ret (v:=.tuple #[.string ⟨#[51]⟩,.agg (id6C (w.heap.size + 1))]) (by simp [results,Tryz.results108,go_sem,i0,i1]) rfl ⟨_,rfl,HN.out,Nat.le_succ _,HB.out⟩
abbrev op6C (o:Op6):Array Value:=#[.int .u8 (o.k:Nat),.int .u8 2,.string o.p,.string o.q,.int .u8 (o.f:Nat),.int .u16 (o.m:Nat),.string ⟨#[]⟩,.int .i64 0,.int .i64 o.n]
abbrev op6Box (o:Op6):Obj:=.cells (op6C o) 99 (0,0)
abbrev cx6Box (g:Nat):Obj:=.cells #[.string ⟨#[51]⟩,.int .i64 6,.slice (some ⟨g,0,none⟩) 2 2,.string ⟨#[]⟩,.int .i64 0] 38 (0,0)
abbrev rs6C:Array Value:=#[.int .i64 0,.string ⟨#[]⟩,.int .i64 0,.string ⟨#[]⟩,.int .i64 0,.slice none 0 0,.string ⟨#[]⟩,.int .i64 0,.int .i64 0,.int .i64 0,.int .i64 0,.int .i64 0,.int .i64 0,.int .i64 0,.string ⟨#[]⟩]
abbrev rs6Box:Obj:=.cells rs6C 101 (0,0)
theorem cells15r {w:World} {b:Nat} {v0 v1 v2 v3 v4 v5 v6 v7 v8 v9 v10 v11 v12 v13 v14:Value} {t:TypeId} (h:w.heap[b]? = some (.cells #[v0,v1,v2,v3,v4,v5,v6,v7,v8,v9,v10,v11,v12,v13,v14] t (0,0))) :
  w.cell? ⟨b,0,none⟩ = some v0∧w.cell? ⟨b,1,none⟩ = some v1∧w.cell? ⟨b,2,none⟩ = some v2∧w.cell? ⟨b,3,none⟩ = some v3∧w.cell? ⟨b,4,none⟩ = some v4∧w.cell? ⟨b,5,none⟩ = some v5∧w.cell? ⟨b,6,none⟩ = some v6∧w.cell? ⟨b,7,none⟩ = some v7∧w.cell? ⟨b,8,none⟩ = some v8∧w.cell? ⟨b,9,none⟩ = some v9∧w.cell? ⟨b,10,none⟩ = some v10∧w.cell? ⟨b,11,none⟩ = some v11∧w.cell? ⟨b,12,none⟩ = some v12∧w.cell? ⟨b,13,none⟩ = some v13∧w.cell? ⟨b,14,none⟩ = some v14:=by
 simp [World.cell?,h]
end Go.Proofs.YtljopnklonmooaaGreatDoor
