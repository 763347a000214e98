import Derived.Shelf.Strings.Builder1
import Derived.Shelf.Strings.Builder2
import Derived.Shelf.Small.Utf8
import Derived.Shelf.Small.Strs
import Derived.Shelf.Small.Wraps
import Derived.Shelf.Strings.BuilderF
import Derived.Shelf.Strings.BuilderK
import Derived.Shelf.Strings.BuilderRune
import Derived.Shelf.Utf8.AppendRune
import Derived.Shelf.Utf8.AppendRunePlain
import Derived.Shelf.Utf8.RuneCount
import Derived.Shelf.Strings.Builder2Cap
import Derived.Shelf.Strings.Search1
import Derived.Shelf.Strings.Search2
import Derived.Shelf.Strings.Search3
import Derived.Shelf.Strings.Cut
import Derived.Shelf.Strings.Count
import Derived.Shelf.LaysM
import Derived.Shelf.Strings.Shaped
import Derived.Shelf.Strings.Prefix
import Derived.Shelf.Strings.Split
import Derived.Shelf.Strings.Replace
import Derived.Shelf.Strings.SplitShaped
import Derived.Shelf.Unicode.Decode
import Derived.Shelf.Strings.RuneCount
import Derived.Shelf.Unicode.DecodeSlow
import Derived.Shelf.Unicode.DecodeAny
import Derived.Shelf.Strings.MapAny
import Derived.Shelf.Strings.BuilderCap
import Derived.Shelf.Strings.MapGrows
import Derived.Test.YtapbckofgcmgmaaGreatDoorProg
namespace Go.Proofs
open Go.Shelf
def Tryz.lays169_ren:Go.Shelf.Ren:=⟨fun | 169 => 107 | n => n,fun | 70 => 153 | 9 => 9 | 0 => 0 | 72 => 155 | 37 => 121 | 127 => 173 | 3 => 3 | 5 => 5 | n => n,fun | n => n⟩
theorem Tryz.lays169:Go.Proofs.Lays.n169 Tryz.prog Tryz.lays169_ren:={
 mixed:=by kernel_rfl
 f169:=Tryz.func107.trans (congrArg some (by kernel_rfl))
 t0:=Tryz.underlying0
 a0:=Tryz.isAgg0
 z0:=Tryz.sizeOf0
 v0:=Tryz.zeroValue0
 t3:=Tryz.underlying3
 a3:=Tryz.isAgg3
 z3:=Tryz.sizeOf3
 v3:=Tryz.zeroValue3
 t9:=Tryz.underlying9
 a9:=Tryz.isAgg9
 z9:=Tryz.sizeOf9
 v9:=Tryz.zeroValue9
 t37:=Tryz.underlying121
 a37:=Tryz.isAgg121
 z37:=Tryz.sizeOf121
 v37:=Tryz.zeroValue121
 t70:=Tryz.underlying153
 a70:=Tryz.isAgg153
 z70:=Tryz.sizeOf153
 v70:=Tryz.zeroValue153
 t72:=Tryz.underlying155
 a72:=Tryz.isAgg155
 z72:=Tryz.sizeOf155
 v72:=Tryz.zeroValue155
 t127:=Tryz.underlying173
 a127:=Tryz.isAgg173
 z127:=Tryz.sizeOf173
 v127:=Tryz.zeroValue173 }
theorem Tryz.Builder_Extra_169:Builder.Extra Tryz.prog Tryz.lays169_ren:={
 sizeBuilder:=by kernel_rfl
 liesBuilder:=by kernel_rfl
 t5:=Tryz.underlying5
 a5:=Tryz.isAgg5
 z5:=Tryz.sizeOf5
 v5:=Tryz.zeroValue5
 infoByte:=by kernel_rfl
 cellsByte:=by kernel_rfl
 sizeByte:=by kernel_rfl
 neB5:=by decide }
def Tryz.lays143_ren:Go.Shelf.Ren:=⟨fun | 143 => 93 | 219 => 108 | 217 => 103 | 225 => 124 | 224 => 125 | 267 => 126 | 266 => 120 | 314 => 135 | n => n,fun | 9 => 9 | 3 => 3 | 4 => 4 | 5 => 5 | 46 => 122 | 146 => 180 | 51 => 179 | n => n,fun | 1 => 0 | n => n⟩
theorem Tryz.lays143:Go.Proofs.Lays.n143 Tryz.prog Tryz.lays143_ren:={
 mixed:=by kernel_rfl
 f143:=Tryz.func93.trans (congrArg some (by kernel_rfl))
 f217:=Tryz.func103.trans (congrArg some (by kernel_rfl))
 f219:=Tryz.func108.trans (congrArg some (by kernel_rfl))
 f224:=Tryz.func125.trans (congrArg some (by kernel_rfl))
 f225:=Tryz.func124.trans (congrArg some (by kernel_rfl))
 f266:=Tryz.func120.trans (congrArg some (by kernel_rfl))
 f267:=Tryz.func126.trans (congrArg some (by kernel_rfl))
 f314:=Tryz.func135.trans (congrArg some (by kernel_rfl))
 t3:=Tryz.underlying3
 a3:=Tryz.isAgg3
 z3:=Tryz.sizeOf3
 v3:=Tryz.zeroValue3
 t4:=Tryz.underlying4
 a4:=Tryz.isAgg4
 z4:=Tryz.sizeOf4
 v4:=Tryz.zeroValue4
 t5:=Tryz.underlying5
 a5:=Tryz.isAgg5
 z5:=Tryz.sizeOf5
 v5:=Tryz.zeroValue5
 t9:=Tryz.underlying9
 a9:=Tryz.isAgg9
 z9:=Tryz.sizeOf9
 v9:=Tryz.zeroValue9
 t46:=Tryz.underlying122
 a46:=Tryz.isAgg122
 z46:=Tryz.sizeOf122
 v46:=Tryz.zeroValue122
 t51:=Tryz.underlying179
 a51:=Tryz.isAgg179
 z51:=Tryz.sizeOf179
 v51:=Tryz.zeroValue179
 t146:=Tryz.underlying180
 a146:=Tryz.isAgg180
 z146:=Tryz.sizeOf180
 v146:=Tryz.zeroValue180
 g1:=by kernel_rfl }
open Go.RowKit Go.Lib in
theorem Tryz.strings_Index (s sub:ByteArray) (m:Int) (w:World) (hs:s.size < 4294967281) (hm:w.cell? ⟨0,0,none⟩=some (.int .i64 m)) :
  Calls Tryz.prog 93 #[.string s,.string sub] w fun e w' => e=.returned (.int .i64 (Lib.index s.data.toList sub.data.toList)) ∧ w'=w:=Any.strings_Index Tryz.lays143 s sub m w hs hm
def Tryz.lays145_ren:Go.Shelf.Ren:=⟨fun | 145 => 112 | 220 => 128 | 219 => 108 | 217 => 103 | 225 => 124 | 224 => 125 | 267 => 126 | 266 => 120 | 314 => 135 | n => n,fun | 9 => 9 | 4 => 4 | 59 => 144 | 3 => 3 | 5 => 5 | 46 => 122 | 146 => 180 | 51 => 179 | n => n,fun | 1 => 0 | n => n⟩
theorem Tryz.lays145:Go.Proofs.Lays.n145 Tryz.prog Tryz.lays145_ren:={
 mixed:=by kernel_rfl
 f145:=Tryz.func112.trans (congrArg some (by kernel_rfl))
 f217:=Tryz.func103.trans (congrArg some (by kernel_rfl))
 f219:=Tryz.func108.trans (congrArg some (by kernel_rfl))
 f220:=Tryz.func128.trans (congrArg some (by kernel_rfl))
 f224:=Tryz.func125.trans (congrArg some (by kernel_rfl))
 f225:=Tryz.func124.trans (congrArg some (by kernel_rfl))
 f266:=Tryz.func120.trans (congrArg some (by kernel_rfl))
 f267:=Tryz.func126.trans (congrArg some (by kernel_rfl))
 f314:=Tryz.func135.trans (congrArg some (by kernel_rfl))
 t3:=Tryz.underlying3
 a3:=Tryz.isAgg3
 z3:=Tryz.sizeOf3
 v3:=Tryz.zeroValue3
 t4:=Tryz.underlying4
 a4:=Tryz.isAgg4
 z4:=Tryz.sizeOf4
 v4:=Tryz.zeroValue4
 t5:=Tryz.underlying5
 a5:=Tryz.isAgg5
 z5:=Tryz.sizeOf5
 v5:=Tryz.zeroValue5
 t9:=Tryz.underlying9
 a9:=Tryz.isAgg9
 z9:=Tryz.sizeOf9
 v9:=Tryz.zeroValue9
 t46:=Tryz.underlying122
 a46:=Tryz.isAgg122
 z46:=Tryz.sizeOf122
 v46:=Tryz.zeroValue122
 t51:=Tryz.underlying179
 a51:=Tryz.isAgg179
 z51:=Tryz.sizeOf179
 v51:=Tryz.zeroValue179
 t59:=Tryz.underlying144
 a59:=Tryz.isAgg144
 z59:=Tryz.sizeOf144
 v59:=Tryz.zeroValue144
 t146:=Tryz.underlying180
 a146:=Tryz.isAgg180
 z146:=Tryz.sizeOf180
 v146:=Tryz.zeroValue180
 g1:=by kernel_rfl }
open Go.RowKit Go.Lib in
theorem Tryz.strings_Cut (s sep:ByteArray) (m:Int) (w:World) (hs:s.size < 4294967281) (hm:w.cell? ⟨0,0,none⟩=some (.int .i64 m)) :
  Calls Tryz.prog 112 #[.string s,.string sep] w fun e w' => e=.returned (.tuple #[.string ⟨(Lib.cut s.data.toList sep.data.toList).1.toArray⟩,.string ⟨(Lib.cut s.data.toList sep.data.toList).2.1.toArray⟩,.bool (Lib.cut s.data.toList sep.data.toList).2.2]) ∧ ∃ n,w'=w.drewN n:=Any.strings_Cut Tryz.lays145 s sep m w hs hm
end Go.Proofs
